/- The functions as code of the abstract machine (printed by gen.py), part 4. -/
import Derived.Test.YtlilfiekkaolkaaAmX
set_option linter.unusedVariables false
namespace Go.Proofs.Ytlilfiekkaolkaa.Am
open Go
def r115_1 : List MOper := [o1 8 (.mov (.c (.bool false)))]
def r115_2 : List MOper := [o1 21 (.mov (.t 0)),
  o1 22 (.len (.t 21)),
  o1 23 (.mksl 1 (.bool false) (.t 22)),
  o1 9 (.mov (.t 23))]
def r115_3 : List MOper := [o1 24 (.mov (.t 9)),
  o1 25 (.len (.t 24)),
  o1 26 (.mov (.i 0))]
def r115_4 : List MOper := [o1 27 (.bin .lss (.t 26) (.t 25))]
def r115_5 : List MOper := [o1 28 (.mov (.t 26)),
  o1 10 (.mov (.t 28))]
def r115_6 : List MOper := [o1 29 (.mov (.t 9)),
  o1 30 (.mov (.t 10)),
  o1 31 (.ixs 1 (.t 29) (.t 30)),
  n1 (.st 1 (.t 31) (.c (.bool true)))]
def r115_7 : List MOper := [o1 32 (.bin .add (.t 26) (.i 1)),
  o1 26 (.mov (.t 32))]
def b115_1 : MCode := .seq (.reg false r115_4 [0, 1, 2, 3, 9, 25, 26, 27])
 (.seq (.cond 27 (.skip) (.exit 0))
 (.seq (.block 1 (.seq (.reg false r115_5 [0, 1, 2, 3, 9, 10, 25, 26])
 (.reg false r115_6 [0, 1, 2, 3, 9, 25, 26])))
 (.reg false r115_7 [0, 1, 2, 3, 9, 25, 26])))
def r115_8 : List MOper := [o1 33 (.mov (.t 0)),
  o1 34 (.mov (.t 1)),
  o1 35 (.mov (.t 9)),
  o1 36 (.call 152 [(.t 33), (.t 34), (.t 35)]),
  o1 11 (.mov (.t 36))]
def r115_9 : List MOper := [o1 37 (.mov (.t 0)),
  o1 38 (.mov (.t 11)),
  o1 39 (.mov (.t 2)),
  o1 40 (.call 111 [(.t 38), (.t 39)]),
  o1 41 (.call 153 [(.t 37), (.t 40)]),
  o1 12 (.mov (.t 41))]
def r115_10 : List MOper := [o1 42 (.mov (.t 12)),
  o1 43 (.len (.t 42)),
  o1 44 (.mov (.i 0))]
def r115_11 : List MOper := [o1 45 (.bin .lss (.t 44) (.t 43))]
def r115_12 : List MOper := [o1 46 (.mov (.t 44)),
  o1 47 (.ixs 1 (.t 42) (.t 44)),
  o1 48 (.ld false 1 (.t 47)),
  o1 13 (.mov (.t 46)),
  o1 14 (.mov (.t 48))]
def r115_13 : List MOper := [o1 49 (.mov (.t 14)),
  o1 50 (.mov (.t 13)),
  o1 51 (.bin .neq (.t 49) (.t 50))]
def r115_14 : List MOper := [o1 15 (.mov (.c (.bool true)))]
def r115_15 : List MOper := [o1 52 (.mov (.t 3)),
  o1 53 (.len (.t 52)),
  o1 54 (.mov (.i 0))]
def r115_16 : List MOper := [o1 55 (.bin .lss (.t 54) (.t 53))]
def r115_17 : List MOper := [o1 56 (.ixs 1 (.t 52) (.t 54)),
  o1 57 (.ld false 1 (.t 56)),
  o1 17 (.mov (.t 57))]
def r115_18 : List MOper := [o1 18 (.mov (.c (.bool false)))]
def r115_19 : List MOper := [o1 58 (.mov (.t 12)),
  o1 59 (.len (.t 58)),
  o1 60 (.mov (.i 0))]
def r115_20 : List MOper := [o1 61 (.bin .lss (.t 60) (.t 59))]
def r115_21 : List MOper := [o1 62 (.mov (.t 60)),
  o1 63 (.ixs 1 (.t 58) (.t 60)),
  o1 64 (.ld false 1 (.t 63)),
  o1 19 (.mov (.t 62)),
  o1 20 (.mov (.t 64))]
def r115_22 : List MOper := [o1 65 (.mov (.t 18)),
  o1 66 (.mov (.t 65)),
  o2 67 66 false (.mov (.t 20)),
  o2 68 66 false (.mov (.t 13)),
  o2 69 66 false (.bin .eql (.t 67) (.t 68)),
  o2 70 66 false (.mov (.t 69)),
  o2 71 70 true (.mov (.t 17)),
  o2 72 70 true (.mov (.t 19)),
  o2 73 70 true (.call 48 [(.t 71), (.t 72)]),
  o2 74 66 false (.pick (.t 70) (.t 73) (.c (.bool false))),
  o1 75 (.pick (.t 66) (.c (.bool true)) (.t 74)),
  o1 18 (.mov (.t 75))]
def r115_23 : List MOper := [o1 76 (.bin .add (.t 60) (.i 1)),
  o1 60 (.mov (.t 76))]
def b115_4 : MCode := .seq (.reg false r115_20 [3, 12, 13, 15, 17, 18, 42, 43, 44, 52, 53, 54, 58, 59, 60, 61])
 (.seq (.cond 61 (.skip) (.exit 6))
 (.seq (.block 7 (.seq (.reg false r115_21 [3, 12, 13, 15, 17, 18, 19, 20, 42, 43, 44, 52, 53, 54, 58, 59, 60])
 (.reg false r115_22 [3, 12, 13, 15, 17, 18, 42, 43, 44, 52, 53, 54, 58, 59, 60])))
 (.reg false r115_23 [3, 12, 13, 15, 17, 18, 42, 43, 44, 52, 53, 54, 58, 59, 60])))
def r115_24 : List MOper := [o1 77 (.mov (.t 15)),
  o1 78 (.mov (.t 77)),
  o2 79 78 true (.mov (.t 18)),
  o1 80 (.pick (.t 78) (.t 79) (.c (.bool false))),
  o1 15 (.mov (.t 80))]
def r115_25 : List MOper := [o1 81 (.bin .add (.t 54) (.i 1)),
  o1 54 (.mov (.t 81))]
def b115_3 : MCode := .seq (.reg false r115_16 [3, 12, 13, 15, 42, 43, 44, 52, 53, 54, 55])
 (.seq (.cond 55 (.skip) (.exit 4))
 (.seq (.block 5 (.seq (.reg false r115_17 [3, 12, 13, 15, 17, 42, 43, 44, 52, 53, 54])
 (.seq (.reg false r115_18 [3, 12, 13, 15, 17, 18, 42, 43, 44, 52, 53, 54])
 (.seq (.seq (.reg false r115_19 [3, 12, 13, 15, 17, 18, 42, 43, 44, 52, 53, 54, 58, 59, 60])
 (.block 6 (.loop [3, 12, 13, 15, 17, 18, 42, 43, 44, 52, 53, 54, 58, 59, 60] b115_4)))
 (.reg false r115_24 [3, 12, 13, 15, 42, 43, 44, 52, 53, 54])))))
 (.reg false r115_25 [3, 12, 13, 15, 42, 43, 44, 52, 53, 54])))
def r115_26 : List MOper := [o1 82 (.mov (.t 15))]
def r115_27 : List MOper := [o1 8 (.mov (.c (.bool true)))]
def r115_28 : List MOper := [o1 83 (.bin .add (.t 44) (.i 1)),
  o1 44 (.mov (.t 83))]
def b115_2 : MCode := .seq (.reg false r115_11 [3, 12, 42, 43, 44, 45])
 (.seq (.cond 45 (.skip) (.exit 2))
 (.seq (.block 3 (.seq (.reg false r115_12 [3, 12, 13, 14, 42, 43, 44])
 (.seq (.seq (.reg false r115_13 [3, 12, 13, 42, 43, 44, 51])
 (.cond 51 (.exit 3) (.skip)))
 (.seq (.reg false r115_14 [3, 12, 13, 15, 42, 43, 44])
 (.seq (.seq (.reg false r115_15 [3, 12, 13, 15, 42, 43, 44, 52, 53, 54])
 (.block 4 (.loop [3, 12, 13, 15, 42, 43, 44, 52, 53, 54] b115_3)))
 (.seq (.reg false r115_26 [3, 12, 42, 43, 44, 82])
 (.cond 82 (.seq (.reg false r115_27 [8])
 (.ret)) (.skip))))))))
 (.reg false r115_28 [3, 12, 42, 43, 44])))
def r115_29 : List MOper := [o1 8 (.mov (.c (.bool false)))]
def c115 : MCode := .seq (.reg false r115_1 [0, 1, 2, 3])
 (.seq (.reg false r115_2 [0, 1, 2, 3, 9])
 (.seq (.seq (.reg false r115_3 [0, 1, 2, 3, 9, 25, 26])
 (.block 0 (.loop [0, 1, 2, 3, 9, 25, 26] b115_1)))
 (.seq (.reg false r115_8 [0, 2, 3, 11])
 (.seq (.reg false r115_9 [3, 12])
 (.seq (.seq (.reg false r115_10 [3, 12, 42, 43, 44])
 (.block 2 (.loop [3, 12, 42, 43, 44] b115_2)))
 (.seq (.reg false r115_29 [8])
 (.ret)))))))
def m115 : MFunc := ⟨3, [.tmp 8], c115⟩
def r116_1 : List MOper := [o1 4 (.mov (.c (.fz .isnil 1 [])))]
def r116_2 : List MOper := [o1 7 (.mov (.t 0)),
  o1 8 (.len (.t 7)),
  o1 9 (.mksl 1 (.bool false) (.t 8)),
  o1 5 (.mov (.t 9))]
def r116_3 : List MOper := [o1 10 (.mov (.t 5)),
  o1 11 (.len (.t 10)),
  o1 12 (.mov (.i 0))]
def r116_4 : List MOper := [o1 13 (.bin .lss (.t 12) (.t 11))]
def r116_5 : List MOper := [o1 14 (.mov (.t 12)),
  o1 6 (.mov (.t 14))]
def r116_6 : List MOper := [o1 15 (.mov (.t 5)),
  o1 16 (.mov (.t 6)),
  o1 17 (.mov (.t 1)),
  o1 18 (.mov (.t 6)),
  o1 19 (.call 48 [(.t 17), (.t 18)]),
  o1 20 (.not (.t 19)),
  o1 21 (.ixs 1 (.t 15) (.t 16)),
  n1 (.st 1 (.t 21) (.t 20))]
def r116_7 : List MOper := [o1 22 (.bin .add (.t 12) (.i 1)),
  o1 12 (.mov (.t 22))]
def b116_1 : MCode := .seq (.reg false r116_4 [1, 5, 11, 12, 13])
 (.seq (.cond 13 (.skip) (.exit 0))
 (.seq (.block 1 (.seq (.reg false r116_5 [1, 5, 6, 11, 12])
 (.reg false r116_6 [1, 5, 11, 12])))
 (.reg false r116_7 [1, 5, 11, 12])))
def r116_8 : List MOper := [o1 23 (.mov (.t 5)),
  o1 4 (.mov (.t 23))]
def c116 : MCode := .seq (.reg false r116_1 [0, 1])
 (.seq (.reg false r116_2 [1, 5])
 (.seq (.seq (.reg false r116_3 [1, 5, 11, 12])
 (.block 0 (.loop [1, 5, 11, 12] b116_1)))
 (.seq (.reg false r116_8 [4])
 (.ret))))
def m116 : MFunc := ⟨3, [.tmp 4], c116⟩
def r117_1 : List MOper := [o1 3 (.box (.t 0)),
  o1 6 (.mov (.c (.fz .isnil 1 []))),
  o1 7 (.mov (.i 0))]
def r117_2 : List MOper := [o1 15 (.ld true 2 (.t 3)),
  o1 16 (.call 69 [(.t 15)]),
  o1 17 (.bin .neq (.t 16) (.i 0)),
  o1 18 (.mov (.t 17)),
  o2 19 18 false (.mov (.t 1)),
  o2 20 18 false (.len (.t 19)),
  o2 21 18 false (.mov (.t 2)),
  o2 22 18 false (.len (.t 21)),
  o2 23 18 false (.mx [(.t 20), (.t 22)]),
  o2 24 18 false (.bin .gtr (.t 23) (.i 4)),
  o1 25 (.pick (.t 18) (.c (.bool true)) (.t 24))]
def r117_3 : List MOper := [o1 6 (.mov (.c (.fz .isnil 1 []))),
  o1 7 (.mov (.i 0))]
def q117_4 : List MOper := [ox (some 26) none .R false (.ld true 2 (.t 3)),
  ox (some 27) none .R false (.ld true 2 (.t 3)),
  o1 28 (.mov (.t 1)),
  ox (some 29) none .R false (.call 154 [(.t 27), (.t 28)]),
  ox (some 30) none .R false (.ld true 2 (.t 3)),
  o1 31 (.mov (.t 2)),
  ox (some 32) none .R false (.call 154 [(.t 30), (.t 31)]),
  o1 33 (.build [.fz .isnil 1 [], .fz .isnil 1 [], .fz .isnil 1 [], .fz .isnil 1 []] [] [(0, 2, (.t 26)), (2, 1, (.t 29)), (3, 1, (.t 32))]),
  ox (some 34) none .L false (.box (.t 33)),
  o1 8 (.mov (.t 34))]
def r117_4 : List MOper := q117_4
def r117_5 : List MOper := [o1 35 (.ld true 2 (.t 3)),
  o1 36 (.call 41 [(.t 35), (.c (.fz .isnil 1 []))]),
  o1 9 (.mov (.t 36)),
  o1 10 (.mov (.i 0))]
def r117_6 : List MOper := [o1 37 (.mov (.t 8)),
  o1 38 (.mkfn 155 [(.t 37)] []),
  o1 11 (.mov (.t 38))]
def r117_7 : List MOper := [o1 39 (.mov (.t 9)),
  o1 12 (.mov (.t 39))]
def r117_8 : List MOper := [o1 40 (.mov (.t 8)),
  o1 41 (.nilck (.t 40)),
  o1 42 (.fld 3 (.t 41)),
  o1 43 (.ld false 1 (.t 42)),
  o1 44 (.len (.t 43)),
  o1 45 (.mov (.i 0))]
def r117_9 : List MOper := [o1 46 (.bin .lss (.t 45) (.t 44))]
def r117_10 : List MOper := [o1 47 (.ixs 1 (.t 43) (.t 45)),
  o1 48 (.ld false 1 (.t 47)),
  o1 14 (.mov (.t 48))]
def r117_11 : List MOper := [o1 49 (.mov (.t 11)),
  o1 50 (.mov (.t 14)),
  o1 51 (.mov (.t 9)),
  o1 52 (.callv (.t 49) [(.t 50), (.t 51)]),
  o1 9 (.mov (.t 52))]
def r117_12 : List MOper := [o1 53 (.bin .add (.t 45) (.i 1)),
  o1 45 (.mov (.t 53))]
def b117_2 : MCode := .seq (.reg false r117_9 [8, 9, 10, 11, 12, 43, 44, 45, 46])
 (.seq (.cond 46 (.skip) (.exit 2))
 (.seq (.block 3 (.seq (.reg false r117_10 [8, 9, 10, 11, 12, 14, 43, 44, 45])
 (.reg false r117_11 [8, 9, 10, 11, 12, 43, 44, 45])))
 (.reg false r117_12 [8, 9, 10, 11, 12, 43, 44, 45])))
def r117_13 : List MOper := [o1 54 (.mov (.t 12)),
  o1 55 (.mov (.t 9)),
  o1 56 (.call 96 [(.t 54), (.t 55)])]
def r117_14 : List MOper := [o1 57 (.mov (.t 9)),
  o1 58 (.mov (.t 10)),
  o1 6 (.mov (.t 57)),
  o1 7 (.mov (.t 58))]
def r117_15 : List MOper := [o1 59 (.mov (.t 10)),
  o1 60 (.bin .add (.t 59) (.i 1)),
  o1 10 (.mov (.t 60))]
def b117_1 : MCode := .block 1 (.seq (.reg false r117_7 [8, 9, 10, 11, 12])
 (.seq (.seq (.reg false r117_8 [8, 9, 10, 11, 12, 43, 44, 45])
 (.block 2 (.loop [8, 9, 10, 11, 12, 43, 44, 45] b117_2)))
 (.seq (.seq (.reg false r117_13 [8, 9, 10, 11, 56])
 (.cond 56 (.seq (.reg false r117_14 [6, 7])
 (.ret)) (.skip)))
 (.reg false r117_15 [8, 9, 10, 11]))))
def c117 : MCode := .seq (.reg false r117_1 [1, 2, 3])
 (.seq (.seq (.reg false r117_2 [1, 2, 3, 25])
 (.cond 25 (.seq (.reg false r117_3 [6, 7])
 (.ret)) (.skip)))
 (.seq (.reg true r117_4 [3, 8])
 (.seq (.reg false r117_5 [8, 9, 10])
 (.seq (.reg false r117_6 [8, 9, 10, 11])
 (.block 0 (.loop [8, 9, 10, 11] b117_1))))))
def m117 : MFunc := ⟨3, [.tmp 6, .tmp 7], c117⟩
def r118_1 : List MOper := [o1 8 (.mov (.c (.bool false)))]
def r118_2 : List MOper := [o1 14 (.mov (.t 0)),
  o1 15 (.call 126 [(.t 14)]),
  o1 16 (.not (.t 15))]
def r118_3 : List MOper := [o1 8 (.mov (.c (.bool false)))]
def r118_4 : List MOper := [o1 17 (.mov (.t 0)),
  o1 18 (.mov (.t 1)),
  o1 19 (.call 127 [(.t 17), (.t 18)]),
  o1 9 (.mov (.t 19))]
def r118_5 : List MOper := [o1 20 (.mov (.t 3)),
  o1 21 (.len (.t 20)),
  o1 22 (.mov (.i 0))]
def r118_6 : List MOper := [o1 23 (.bin .lss (.t 22) (.t 21))]
def r118_7 : List MOper := [o1 24 (.ixs 1 (.t 20) (.t 22)),
  o1 25 (.ld false 1 (.t 24)),
  o1 11 (.mov (.t 25))]
def r118_8 : List MOper := [o1 26 (.mov (.t 0)),
  o1 27 (.mov (.t 9)),
  o1 28 (.mov (.t 11)),
  o1 29 (.call 157 [(.t 27), (.t 28)]),
  o1 30 (.call 156 [(.t 26), (.t 29)]),
  o1 31 (.len (.t 30)),
  o1 32 (.mov (.i 0))]
def r118_9 : List MOper := [o1 33 (.bin .lss (.t 32) (.t 31))]
def r118_10 : List MOper := [o1 34 (.ixs 1 (.t 30) (.t 32)),
  o1 35 (.ld false 1 (.t 34)),
  o1 13 (.mov (.t 35))]
def r118_11 : List MOper := [o1 36 (.mov (.t 13)),
  o1 37 (.mov (.t 2)),
  o1 38 (.call 158 [(.t 36), (.t 37)])]
def r118_12 : List MOper := [o1 8 (.mov (.c (.bool false)))]
def r118_13 : List MOper := [o1 39 (.bin .add (.t 32) (.i 1)),
  o1 32 (.mov (.t 39))]
def b118_2 : MCode := .seq (.reg false r118_9 [0, 2, 9, 20, 21, 22, 30, 31, 32, 33])
 (.seq (.cond 33 (.skip) (.exit 2))
 (.seq (.block 3 (.seq (.reg false r118_10 [0, 2, 9, 13, 20, 21, 22, 30, 31, 32])
 (.seq (.reg false r118_11 [0, 2, 9, 20, 21, 22, 30, 31, 32, 38])
 (.cond 38 (.seq (.reg false r118_12 [8])
 (.ret)) (.skip)))))
 (.reg false r118_13 [0, 2, 9, 20, 21, 22, 30, 31, 32])))
def r118_14 : List MOper := [o1 40 (.bin .add (.t 22) (.i 1)),
  o1 22 (.mov (.t 40))]
def b118_1 : MCode := .seq (.reg false r118_6 [0, 2, 9, 20, 21, 22, 23])
 (.seq (.cond 23 (.skip) (.exit 0))
 (.seq (.block 1 (.seq (.reg false r118_7 [0, 2, 9, 11, 20, 21, 22])
 (.seq (.reg false r118_8 [0, 2, 9, 20, 21, 22, 30, 31, 32])
 (.block 2 (.loop [0, 2, 9, 20, 21, 22, 30, 31, 32] b118_2)))))
 (.reg false r118_14 [0, 2, 9, 20, 21, 22])))
def r118_15 : List MOper := [o1 8 (.mov (.c (.bool true)))]
def c118 : MCode := .seq (.reg false r118_1 [0, 1, 2, 3])
 (.seq (.seq (.reg false r118_2 [0, 1, 2, 3, 16])
 (.cond 16 (.seq (.reg false r118_3 [8])
 (.ret)) (.skip)))
 (.seq (.reg false r118_4 [0, 2, 3, 9])
 (.seq (.seq (.reg false r118_5 [0, 2, 9, 20, 21, 22])
 (.block 0 (.loop [0, 2, 9, 20, 21, 22] b118_1)))
 (.seq (.reg false r118_15 [8])
 (.ret)))))
def m118 : MFunc := ⟨3, [.tmp 8], c118⟩
def r119_1 : List MOper := [o1 8 (.mov (.c (.bool false)))]
def r119_2 : List MOper := [o1 14 (.mov (.t 0)),
  o1 15 (.call 126 [(.t 14)]),
  o1 16 (.not (.t 15))]
def r119_3 : List MOper := [o1 8 (.mov (.c (.bool false)))]
def r119_4 : List MOper := [o1 17 (.mov (.t 0)),
  o1 18 (.mov (.t 1)),
  o1 19 (.call 127 [(.t 17), (.t 18)]),
  o1 9 (.mov (.t 19))]
def r119_5 : List MOper := [o1 20 (.mov (.t 2)),
  o1 21 (.len (.t 20)),
  o1 22 (.mov (.i 0))]
def r119_6 : List MOper := [o1 23 (.bin .lss (.t 22) (.t 21))]
def r119_7 : List MOper := [o1 24 (.ixs 1 (.t 20) (.t 22)),
  o1 25 (.ld false 1 (.t 24)),
  o1 11 (.mov (.t 25))]
def r119_8 : List MOper := [o1 26 (.mov (.t 0)),
  o1 27 (.mov (.t 9)),
  o1 28 (.mov (.t 11)),
  o1 29 (.call 157 [(.t 27), (.t 28)]),
  o1 30 (.call 156 [(.t 26), (.t 29)]),
  o1 31 (.len (.t 30)),
  o1 32 (.bin .gtr (.t 31) (.i 0))]
def r119_9 : List MOper := [o1 8 (.mov (.c (.bool false)))]
def r119_10 : List MOper := [o1 33 (.bin .add (.t 22) (.i 1)),
  o1 22 (.mov (.t 33))]
def b119_1 : MCode := .seq (.reg false r119_6 [0, 3, 9, 20, 21, 22, 23])
 (.seq (.cond 23 (.skip) (.exit 0))
 (.seq (.block 1 (.seq (.reg false r119_7 [0, 3, 9, 11, 20, 21, 22])
 (.seq (.reg false r119_8 [0, 3, 9, 20, 21, 22, 32])
 (.cond 32 (.seq (.reg false r119_9 [8])
 (.ret)) (.skip)))))
 (.reg false r119_10 [0, 3, 9, 20, 21, 22])))
def r119_11 : List MOper := [o1 34 (.mov (.t 0)),
  o1 35 (.mov (.t 9)),
  o1 36 (.call 156 [(.t 34), (.t 35)]),
  o1 37 (.len (.t 36)),
  o1 38 (.mov (.i 0))]
def r119_12 : List MOper := [o1 39 (.bin .lss (.t 38) (.t 37))]
def r119_13 : List MOper := [o1 40 (.ixs 1 (.t 36) (.t 38)),
  o1 41 (.ld false 1 (.t 40)),
  o1 13 (.mov (.t 41))]
def r119_14 : List MOper := [o1 42 (.mov (.t 13)),
  o1 43 (.mov (.t 3)),
  o1 44 (.call 158 [(.t 42), (.t 43)])]
def r119_15 : List MOper := [o1 8 (.mov (.c (.bool false)))]
def r119_16 : List MOper := [o1 45 (.bin .add (.t 38) (.i 1)),
  o1 38 (.mov (.t 45))]
def b119_2 : MCode := .seq (.reg false r119_12 [3, 36, 37, 38, 39])
 (.seq (.cond 39 (.skip) (.exit 2))
 (.seq (.block 3 (.seq (.reg false r119_13 [3, 13, 36, 37, 38])
 (.seq (.reg false r119_14 [3, 36, 37, 38, 44])
 (.cond 44 (.seq (.reg false r119_15 [8])
 (.ret)) (.skip)))))
 (.reg false r119_16 [3, 36, 37, 38])))
def r119_17 : List MOper := [o1 8 (.mov (.c (.bool true)))]
def c119 : MCode := .seq (.reg false r119_1 [0, 1, 2, 3])
 (.seq (.seq (.reg false r119_2 [0, 1, 2, 3, 16])
 (.cond 16 (.seq (.reg false r119_3 [8])
 (.ret)) (.skip)))
 (.seq (.reg false r119_4 [0, 2, 3, 9])
 (.seq (.seq (.reg false r119_5 [0, 3, 9, 20, 21, 22])
 (.block 0 (.loop [0, 3, 9, 20, 21, 22] b119_1)))
 (.seq (.seq (.reg false r119_11 [3, 36, 37, 38])
 (.block 2 (.loop [3, 36, 37, 38] b119_2)))
 (.seq (.reg false r119_17 [8])
 (.ret))))))
def m119 : MFunc := ⟨3, [.tmp 8], c119⟩
def r120_1 : List MOper := [o1 4 (.mov (.c (.bool false)))]
def r120_2 : List MOper := [o1 7 (.mov (.t 0)),
  o1 8 (.len (.t 7)),
  o1 9 (.mov (.i 0))]
def r120_3 : List MOper := [o1 10 (.bin .lss (.t 9) (.t 8))]
def r120_4 : List MOper := [o1 11 (.ixs 1 (.t 7) (.t 9)),
  o1 12 (.ld false 1 (.t 11)),
  o1 6 (.mov (.t 12))]
def r120_5 : List MOper := [o1 13 (.mov (.t 6)),
  o1 14 (.bin .lss (.t 13) (.i 0)),
  o1 15 (.mov (.t 14)),
  o2 16 15 false (.mov (.t 6)),
  o2 17 15 false (.bin .geq (.t 16) (.i 6)),
  o1 18 (.pick (.t 15) (.c (.bool true)) (.t 17))]
def r120_6 : List MOper := [o1 4 (.mov (.c (.bool false)))]
def r120_7 : List MOper := [o1 19 (.bin .add (.t 9) (.i 1)),
  o1 9 (.mov (.t 19))]
def b120_1 : MCode := .seq (.reg false r120_3 [0, 1, 7, 8, 9, 10])
 (.seq (.cond 10 (.skip) (.exit 0))
 (.seq (.block 1 (.seq (.reg false r120_4 [0, 1, 6, 7, 8, 9])
 (.seq (.reg false r120_5 [0, 1, 7, 8, 9, 18])
 (.cond 18 (.seq (.reg false r120_6 [4])
 (.ret)) (.skip)))))
 (.reg false r120_7 [0, 1, 7, 8, 9])))
def r120_8 : List MOper := [o1 20 (.mov (.t 0)),
  o1 21 (.len (.t 20)),
  o1 22 (.mov (.t 1)),
  o1 23 (.bin .eql (.t 21) (.t 22)),
  o1 4 (.mov (.t 23))]
def c120 : MCode := .seq (.reg false r120_1 [0, 1])
 (.seq (.seq (.reg false r120_2 [0, 1, 7, 8, 9])
 (.block 0 (.loop [0, 1, 7, 8, 9] b120_1)))
 (.seq (.reg false r120_8 [4])
 (.ret)))
def m120 : MFunc := ⟨3, [.tmp 4], c120⟩
def r121_1 : List MOper := [o1 6 (.mov (.c (.bool false)))]
def r121_2 : List MOper := [o1 15 (.mov (.t 0)),
  o1 16 (.mov (.t 2)),
  o1 17 (.call 1156 [(.t 15), (.t 16)]),
  o1 7 (.mov (.t 17))]
def r121_3 : List MOper := [o1 18 (.mov (.t 7)),
  o1 19 (.len (.t 18)),
  o1 20 (.bin .gtr (.t 19) (.i 0))]
def r121_4 : List MOper := [o1 21 (.mov (.t 7)),
  o1 22 (.mov (.t 7)),
  o1 23 (.len (.t 22)),
  o1 24 (.bin .sub (.t 23) (.i 1)),
  o1 25 (.ixs 1 (.t 21) (.t 24)),
  o1 26 (.ld false 1 (.t 25)),
  o1 8 (.mov (.t 26))]
def r121_5 : List MOper := [o1 27 (.mov (.t 7)),
  o1 28 (.mov (.t 7)),
  o1 29 (.len (.t 28)),
  o1 30 (.bin .sub (.t 29) (.i 1)),
  o1 31 (.slc 1 (.t 27) none (some (.t 30))),
  o1 7 (.mov (.t 31))]
def r121_6 : List MOper := [o1 32 (.mov (.t 1)),
  o1 33 (.mov (.t 8)),
  o1 34 (.ixs 1 (.t 33) (.i 0)),
  o1 35 (.ld false 1 (.t 34)),
  o1 36 (.ixs 1 (.t 32) (.t 35)),
  o1 37 (.ld false 1 (.t 36)),
  o1 9 (.mov (.t 37))]
def r121_7 : List MOper := [o1 38 (.mov (.t 8)),
  o1 39 (.len (.t 38)),
  o1 40 (.mov (.i 0))]
def r121_8 : List MOper := [o1 41 (.bin .lss (.t 40) (.t 39))]
def r121_9 : List MOper := [o1 42 (.ixs 1 (.t 38) (.t 40)),
  o1 43 (.ld false 1 (.t 42)),
  o1 11 (.mov (.t 43))]
def r121_10 : List MOper := [o1 44 (.mov (.t 9)),
  o1 45 (.mov (.t 1)),
  o1 46 (.mov (.t 11)),
  o1 47 (.ixs 1 (.t 45) (.t 46)),
  o1 48 (.ld false 1 (.t 47)),
  o1 49 (.mx [(.t 44), (.t 48)]),
  o1 9 (.mov (.t 49))]
def r121_11 : List MOper := [o1 50 (.bin .add (.t 40) (.i 1)),
  o1 40 (.mov (.t 50))]
def b121_2 : MCode := .seq (.reg false r121_8 [0, 1, 7, 8, 9, 38, 39, 40, 41])
 (.seq (.cond 41 (.skip) (.exit 2))
 (.seq (.block 3 (.seq (.reg false r121_9 [0, 1, 7, 8, 9, 11, 38, 39, 40])
 (.reg false r121_10 [0, 1, 7, 8, 9, 38, 39, 40])))
 (.reg false r121_11 [0, 1, 7, 8, 9, 38, 39, 40])))
def r121_12 : List MOper := [o1 51 (.mov (.t 9)),
  o1 52 (.bin .rem (.t 51) (.i 2)),
  o1 53 (.bin .neq (.t 52) (.i 0))]
def r121_13 : List MOper := [o1 6 (.mov (.c (.bool false)))]
def r121_14 : List MOper := [o1 54 (.mov (.t 0)),
  o1 55 (.len (.t 54)),
  o1 56 (.mksl 1 (.bool false) (.t 55)),
  o1 12 (.mov (.t 56))]
def r121_15 : List MOper := [o1 57 (.mov (.t 8)),
  o1 58 (.len (.t 57)),
  o1 59 (.mov (.i 0))]
def r121_16 : List MOper := [o1 60 (.bin .lss (.t 59) (.t 58))]
def r121_17 : List MOper := [o1 61 (.ixs 1 (.t 57) (.t 59)),
  o1 62 (.ld false 1 (.t 61)),
  o1 14 (.mov (.t 62))]
def r121_18 : List MOper := [o1 63 (.mov (.t 12)),
  o1 64 (.mov (.t 14)),
  o1 65 (.mov (.t 1)),
  o1 66 (.mov (.t 14)),
  o1 67 (.ixs 1 (.t 65) (.t 66)),
  o1 68 (.ld false 1 (.t 67)),
  o1 69 (.mov (.t 9)),
  o1 70 (.bin .lss (.t 68) (.t 69)),
  o1 71 (.ixs 1 (.t 63) (.t 64)),
  n1 (.st 1 (.t 71) (.t 70))]
def r121_19 : List MOper := [o1 72 (.bin .add (.t 59) (.i 1)),
  o1 59 (.mov (.t 72))]
def b121_3 : MCode := .seq (.reg false r121_16 [0, 1, 7, 9, 12, 57, 58, 59, 60])
 (.seq (.cond 60 (.skip) (.exit 4))
 (.seq (.block 5 (.seq (.reg false r121_17 [0, 1, 7, 9, 12, 14, 57, 58, 59])
 (.reg false r121_18 [0, 1, 7, 9, 12, 57, 58, 59])))
 (.reg false r121_19 [0, 1, 7, 9, 12, 57, 58, 59])))
def r121_20 : List MOper := [o1 73 (.mov (.t 7)),
  o1 74 (.mov (.t 0)),
  o1 75 (.mov (.t 12)),
  o1 76 (.call 1156 [(.t 74), (.t 75)]),
  o1 77 (.app 1 (.t 73) (.t 76)),
  o1 7 (.mov (.t 77))]
def b121_1 : MCode := .seq (.seq (.reg false r121_3 [0, 1, 7, 20])
 (.cond 20 (.skip) (.exit 0)))
 (.block 1 (.seq (.reg false r121_4 [0, 1, 7, 8])
 (.seq (.reg false r121_5 [0, 1, 7, 8])
 (.seq (.reg false r121_6 [0, 1, 7, 8, 9])
 (.seq (.seq (.reg false r121_7 [0, 1, 7, 8, 9, 38, 39, 40])
 (.block 2 (.loop [0, 1, 7, 8, 9, 38, 39, 40] b121_2)))
 (.seq (.seq (.reg false r121_12 [0, 1, 7, 8, 9, 53])
 (.cond 53 (.seq (.reg false r121_13 [6])
 (.ret)) (.skip)))
 (.seq (.reg false r121_14 [0, 1, 7, 8, 9, 12])
 (.seq (.seq (.reg false r121_15 [0, 1, 7, 9, 12, 57, 58, 59])
 (.block 4 (.loop [0, 1, 7, 9, 12, 57, 58, 59] b121_3)))
 (.reg false r121_20 [0, 1, 7])))))))))
def r121_21 : List MOper := [o1 6 (.mov (.c (.bool true)))]
def c121 : MCode := .seq (.reg false r121_1 [0, 1, 2])
 (.seq (.reg false r121_2 [0, 1, 7])
 (.seq (.block 0 (.loop [0, 1, 7] b121_1))
 (.seq (.reg false r121_21 [6])
 (.ret))))
def m121 : MFunc := ⟨3, [.tmp 6], c121⟩
def r122_1 : List MOper := [o1 2 (.mov (.c (.bool false)))]
def r122_2 : List MOper := [o1 3 (.mov (.t 0)),
  o1 4 (.bin .eql (.t 3) (.i 0)),
  o1 5 (.mov (.t 4)),
  o2 6 5 false (.mov (.t 0)),
  o2 7 5 false (.bin .eql (.t 6) (.i 1)),
  o1 8 (.pick (.t 5) (.c (.bool true)) (.t 7)),
  o1 2 (.mov (.t 8))]
def c122 : MCode := .seq (.reg false r122_1 [0])
 (.seq (.reg false r122_2 [2])
 (.ret))
def m122 : MFunc := ⟨3, [.tmp 2], c122⟩
def r123_1 : List MOper := [o1 3 (.box (.t 0)),
  o1 6 (.alloc [.fz .isnil 1 [], .fz .isnil 1 []] [])]
def r123_2 : List MOper := [o1 12 (.ld true 2 (.t 3)),
  o1 13 (.call 35 [(.t 12)]),
  o1 14 (.bin .neq (.t 13) (.i 0))]
def r123_3 : List MOper := [o1 15 (.build [.fz .isnil 1 [], .fz .isnil 1 []] [] []),
  n1 (.st 2 (.t 6) (.t 15))]
def q123_4 : List MOper := [o1 16 (.fld 0 (.t 3)),
  ox (some 17) none .R false (.ld false 1 (.t 16)),
  ox (some 18) none .A false (.app 1 (.c (.fz .isnil 1 [])) (.t 17)),
  o1 19 (.fld 0 (.t 3)),
  ox (some 20) none .R false (.ld false 1 (.t 19)),
  o1 21 (.len (.t 20)),
  ox (some 22) none .A false (.mksl 1 (.fz .isnil 1 []) (.t 21)),
  o1 23 (.build [.fz .isnil 1 [], .fz .isnil 1 []] [] [(0, 1, (.t 18)), (1, 1, (.t 22))]),
  ox (some 7) none .A false (.alloc [.fz .isnil 1 [], .fz .isnil 1 []] []),
  ox none none .L false (.st 2 (.t 7) (.t 23))]
def r123_4 : List MOper := q123_4
def r123_5 : List MOper := [o1 24 (.fld 1 (.t 3)),
  o1 25 (.ld false 1 (.t 24)),
  o1 26 (.len (.t 25)),
  o1 27 (.mov (.i 0))]
def r123_6 : List MOper := [o1 28 (.bin .lss (.t 27) (.t 26))]
def r123_7 : List MOper := [o1 29 (.mov (.t 27)),
  o1 30 (.ixs 1 (.t 25) (.t 27)),
  o1 31 (.ld false 1 (.t 30)),
  o1 8 (.mov (.t 29)),
  o1 9 (.mov (.t 31))]
def r123_8 : List MOper := [o1 32 (.mov (.t 9)),
  o1 33 (.len (.t 32)),
  o1 34 (.mov (.i 0))]
def r123_9 : List MOper := [o1 35 (.bin .lss (.t 34) (.t 33))]
def r123_10 : List MOper := [o1 36 (.ixs 1 (.t 32) (.t 34)),
  o1 37 (.ld false 1 (.t 36)),
  o1 11 (.mov (.t 37))]
def r123_11 : List MOper := [o1 38 (.fld 0 (.t 3)),
  o1 39 (.ld false 1 (.t 38)),
  o1 40 (.mov (.t 8)),
  o1 41 (.ixs 1 (.t 39) (.t 40)),
  o1 42 (.ld false 1 (.t 41)),
  o1 43 (.mov (.t 1)),
  o1 44 (.bin .neq (.t 42) (.t 43)),
  o1 45 (.mov (.t 44)),
  o2 46 45 false (.mov (.t 8)),
  o2 47 45 false (.mov (.t 2)),
  o2 48 45 false (.len (.t 47)),
  o2 49 45 false (.bin .lss (.t 46) (.t 48)),
  o2 50 45 false (.mov (.t 49)),
  o2 51 50 true (.mov (.t 2)),
  o2 52 50 true (.mov (.t 8)),
  o2 53 50 true (.ixs 1 (.t 51) (.t 52)),
  o2 54 50 true (.ld false 1 (.t 53)),
  o2 55 50 true (.mov (.t 11)),
  o2 56 50 true (.bin .eql (.t 54) (.t 55)),
  o2 57 45 false (.pick (.t 50) (.t 56) (.c (.bool false))),
  o1 58 (.pick (.t 45) (.c (.bool true)) (.t 57))]
def q123_12 : List MOper := [o1 59 (.fld 1 (.t 7)),
  ox (some 60) none .R true (.ld false 1 (.t 59)),
  o1 61 (.mov (.t 8)),
  o1 62 (.fld 1 (.t 7)),
  ox (some 63) none .R false (.ld false 1 (.t 62)),
  o1 64 (.mov (.t 8)),
  o1 65 (.ixs 1 (.t 63) (.t 64)),
  ox (some 66) none .R false (.ld false 1 (.t 65)),
  o1 67 (.mov (.t 11)),
  o1 68 (.bsl false 1 [(.t 67)]),
  ox (some 69) none .L false (.app 1 (.t 66) (.t 68)),
  o1 70 (.ixs 1 (.t 60) (.t 61)),
  ox none none .L false (.st 1 (.t 70) (.t 69))]
def r123_12 : List MOper := q123_12
def r123_13 : List MOper := [o1 71 (.bin .add (.t 34) (.i 1)),
  o1 34 (.mov (.t 71))]
def b123_2 : MCode := .seq (.reg false r123_9 [1, 2, 3, 6, 7, 8, 25, 26, 27, 32, 33, 34, 35])
 (.seq (.cond 35 (.skip) (.exit 2))
 (.seq (.block 3 (.seq (.reg false r123_10 [1, 2, 3, 6, 7, 8, 11, 25, 26, 27, 32, 33, 34])
 (.seq (.reg false r123_11 [1, 2, 3, 6, 7, 8, 11, 25, 26, 27, 32, 33, 34, 58])
 (.cond 58 (.reg true r123_12 [1, 2, 3, 6, 7, 8, 25, 26, 27, 32, 33, 34]) (.skip)))))
 (.reg false r123_13 [1, 2, 3, 6, 7, 8, 25, 26, 27, 32, 33, 34])))
def r123_14 : List MOper := [o1 72 (.bin .add (.t 27) (.i 1)),
  o1 27 (.mov (.t 72))]
def b123_1 : MCode := .seq (.reg false r123_6 [1, 2, 3, 6, 7, 25, 26, 27, 28])
 (.seq (.cond 28 (.skip) (.exit 0))
 (.seq (.block 1 (.seq (.reg false r123_7 [1, 2, 3, 6, 7, 8, 9, 25, 26, 27])
 (.seq (.reg false r123_8 [1, 2, 3, 6, 7, 8, 25, 26, 27, 32, 33, 34])
 (.block 2 (.loop [1, 2, 3, 6, 7, 8, 25, 26, 27, 32, 33, 34] b123_2)))))
 (.reg false r123_14 [1, 2, 3, 6, 7, 25, 26, 27])))
def r123_15 : List MOper := [o1 73 (.ld true 2 (.t 7)),
  n1 (.st 2 (.t 6) (.t 73))]
def c123 : MCode := .seq (.reg false r123_1 [1, 2, 3, 6])
 (.seq (.seq (.reg false r123_2 [1, 2, 3, 6, 14])
 (.cond 14 (.seq (.reg false r123_3 [6])
 (.ret)) (.skip)))
 (.seq (.reg true r123_4 [1, 2, 3, 6, 7])
 (.seq (.seq (.reg false r123_5 [1, 2, 3, 6, 7, 25, 26, 27])
 (.block 0 (.loop [1, 2, 3, 6, 7, 25, 26, 27] b123_1)))
 (.seq (.reg false r123_15 [6])
 (.ret)))))
def m123 : MFunc := ⟨3, [.cell 6 true 2], c123⟩
def r124_1 : List MOper := [o1 2 (.box (.t 0)),
  o1 4 (.mov (.c (.fz .isnil 1 [])))]
def r124_2 : List MOper := [o1 10 (.ld true 2 (.t 2)),
  o1 11 (.call 35 [(.t 10)]),
  o1 12 (.bin .neq (.t 11) (.i 0))]
def r124_3 : List MOper := [o1 4 (.mov (.c (.fz .isnil 1 [])))]
def r124_4 : List MOper := [o1 13 (.ld true 2 (.t 2)),
  o1 14 (.mov (.t 1)),
  o1 15 (.call 1112 [(.t 13), (.t 14)]),
  o1 5 (.mov (.t 15))]
def r124_5 : List MOper := [o1 16 (.mov (.t 5)),
  o1 17 (.len (.t 16)),
  o1 18 (.mov (.i 0))]
def r124_6 : List MOper := [o1 19 (.bin .lss (.t 18) (.t 17))]
def r124_7 : List MOper := [o1 6 (.mov (.c (.bool false)))]
def r124_8 : List MOper := [o1 20 (.mov (.t 5)),
  o1 21 (.len (.t 20)),
  o1 22 (.mov (.i 0))]
def r124_9 : List MOper := [o1 23 (.bin .lss (.t 22) (.t 21))]
def r124_10 : List MOper := [o1 24 (.mov (.t 22)),
  o1 7 (.mov (.t 24))]
def r124_11 : List MOper := [o1 25 (.mov (.t 5)),
  o1 26 (.mov (.t 7)),
  o1 27 (.ixs 1 (.t 25) (.t 26)),
  o1 28 (.ld false 1 (.t 27)),
  o1 29 (.not (.t 28))]
def r124_12 : List MOper := [o1 30 (.fld 1 (.t 2)),
  o1 31 (.ld false 1 (.t 30)),
  o1 32 (.mov (.t 7)),
  o1 33 (.ixs 1 (.t 31) (.t 32)),
  o1 34 (.ld false 1 (.t 33)),
  o1 35 (.len (.t 34)),
  o1 36 (.mov (.i 0))]
def r124_13 : List MOper := [o1 37 (.bin .lss (.t 36) (.t 35))]
def r124_14 : List MOper := [o1 38 (.ixs 1 (.t 34) (.t 36)),
  o1 39 (.ld false 1 (.t 38)),
  o1 9 (.mov (.t 39))]
def r124_15 : List MOper := [o1 40 (.mov (.t 6)),
  o1 41 (.mov (.t 40)),
  o2 42 41 false (.mov (.t 5)),
  o2 43 41 false (.mov (.t 9)),
  o2 44 41 false (.ixs 1 (.t 42) (.t 43)),
  o2 45 41 false (.ld false 1 (.t 44)),
  o2 46 41 false (.not (.t 45)),
  o1 47 (.pick (.t 41) (.c (.bool true)) (.t 46)),
  o1 6 (.mov (.t 47))]
def r124_16 : List MOper := [o1 48 (.mov (.t 5)),
  o1 49 (.mov (.t 9)),
  o1 50 (.ixs 1 (.t 48) (.t 49)),
  n1 (.st 1 (.t 50) (.c (.bool true)))]
def r124_17 : List MOper := [o1 51 (.bin .add (.t 36) (.i 1)),
  o1 36 (.mov (.t 51))]
def b124_3 : MCode := .seq (.reg false r124_13 [2, 5, 6, 17, 18, 21, 22, 34, 35, 36, 37])
 (.seq (.cond 37 (.skip) (.exit 4))
 (.seq (.block 5 (.seq (.reg false r124_14 [2, 5, 6, 9, 17, 18, 21, 22, 34, 35, 36])
 (.seq (.reg false r124_15 [2, 5, 6, 9, 17, 18, 21, 22, 34, 35, 36])
 (.reg false r124_16 [2, 5, 6, 17, 18, 21, 22, 34, 35, 36]))))
 (.reg false r124_17 [2, 5, 6, 17, 18, 21, 22, 34, 35, 36])))
def r124_18 : List MOper := [o1 52 (.bin .add (.t 22) (.i 1)),
  o1 22 (.mov (.t 52))]
def b124_2 : MCode := .seq (.reg false r124_9 [2, 5, 6, 17, 18, 21, 22, 23])
 (.seq (.cond 23 (.skip) (.exit 2))
 (.seq (.block 3 (.seq (.reg false r124_10 [2, 5, 6, 7, 17, 18, 21, 22])
 (.seq (.seq (.reg false r124_11 [2, 5, 6, 7, 17, 18, 21, 22, 29])
 (.cond 29 (.exit 3) (.skip)))
 (.seq (.reg false r124_12 [2, 5, 6, 17, 18, 21, 22, 34, 35, 36])
 (.block 4 (.loop [2, 5, 6, 17, 18, 21, 22, 34, 35, 36] b124_3))))))
 (.reg false r124_18 [2, 5, 6, 17, 18, 21, 22])))
def r124_19 : List MOper := [o1 53 (.mov (.t 6)),
  o1 54 (.not (.t 53))]
def r124_20 : List MOper := [o1 55 (.bin .add (.t 18) (.i 1)),
  o1 18 (.mov (.t 55))]
def b124_1 : MCode := .seq (.reg false r124_6 [2, 5, 17, 18, 19])
 (.seq (.cond 19 (.skip) (.exit 0))
 (.seq (.block 1 (.seq (.reg false r124_7 [2, 5, 6, 17, 18])
 (.seq (.seq (.reg false r124_8 [2, 5, 6, 17, 18, 21, 22])
 (.block 2 (.loop [2, 5, 6, 17, 18, 21, 22] b124_2)))
 (.seq (.reg false r124_19 [2, 5, 17, 18, 54])
 (.cond 54 (.exit 0) (.skip))))))
 (.reg false r124_20 [2, 5, 17, 18])))
def r124_21 : List MOper := [o1 56 (.mov (.t 5)),
  o1 4 (.mov (.t 56))]
def c124 : MCode := .seq (.reg false r124_1 [1, 2])
 (.seq (.seq (.reg false r124_2 [1, 2, 12])
 (.cond 12 (.seq (.reg false r124_3 [4])
 (.ret)) (.skip)))
 (.seq (.reg false r124_4 [2, 5])
 (.seq (.seq (.reg false r124_5 [2, 5, 17, 18])
 (.block 0 (.loop [2, 5, 17, 18] b124_1)))
 (.seq (.reg false r124_21 [4])
 (.ret)))))
def m124 : MFunc := ⟨3, [.tmp 4], c124⟩
def r125_1 : List MOper := [o1 8 (.mov (.c (.bool false)))]
def r125_2 : List MOper := [o1 19 (.mov (.t 0)),
  o1 20 (.len (.t 19)),
  o1 21 (.mksl 1 (.bool false) (.t 20)),
  o1 9 (.mov (.t 21))]
def r125_3 : List MOper := [o1 22 (.mov (.t 9)),
  o1 23 (.len (.t 22)),
  o1 24 (.mov (.i 0))]
def r125_4 : List MOper := [o1 25 (.bin .lss (.t 24) (.t 23))]
def r125_5 : List MOper := [o1 26 (.mov (.t 24)),
  o1 10 (.mov (.t 26))]
def r125_6 : List MOper := [o1 27 (.mov (.t 9)),
  o1 28 (.mov (.t 10)),
  o1 29 (.ixs 1 (.t 27) (.t 28)),
  n1 (.st 1 (.t 29) (.c (.bool true)))]
def r125_7 : List MOper := [o1 30 (.bin .add (.t 24) (.i 1)),
  o1 24 (.mov (.t 30))]
def b125_1 : MCode := .seq (.reg false r125_4 [0, 1, 2, 3, 9, 23, 24, 25])
 (.seq (.cond 25 (.skip) (.exit 0))
 (.seq (.block 1 (.seq (.reg false r125_5 [0, 1, 2, 3, 9, 10, 23, 24])
 (.reg false r125_6 [0, 1, 2, 3, 9, 23, 24])))
 (.reg false r125_7 [0, 1, 2, 3, 9, 23, 24])))
def r125_8 : List MOper := [o1 31 (.mov (.t 0)),
  o1 32 (.mov (.t 2)),
  o1 33 (.mov (.t 9)),
  o1 34 (.call 152 [(.t 31), (.t 32), (.t 33)]),
  o1 11 (.mov (.t 34))]
def r125_9 : List MOper := [o1 35 (.mkmap),
  o1 12 (.mov (.t 35))]
def r125_10 : List MOper := [o1 36 (.mov (.t 1)),
  o1 37 (.len (.t 36)),
  o1 38 (.mov (.i 0))]
def r125_11 : List MOper := [o1 39 (.bin .lss (.t 38) (.t 37))]
def r125_12 : List MOper := [o1 40 (.mov (.t 38)),
  o1 41 (.ixs 1 (.t 36) (.t 38)),
  o1 42 (.ld false 1 (.t 41)),
  o1 13 (.mov (.t 40)),
  o1 14 (.mov (.t 42))]
def r125_13 : List MOper := [o1 43 (.mov (.t 13)),
  o1 44 (.mov (.t 11)),
  o1 45 (.len (.t 44)),
  o1 46 (.bin .geq (.t 43) (.t 45)),
  o1 47 (.mov (.t 46)),
  o2 48 47 false (.mov (.t 11)),
  o2 49 47 false (.mov (.t 13)),
  o2 50 47 false (.ixs 1 (.t 48) (.t 49)),
  o2 51 47 false (.ld false 1 (.t 50)),
  o2 52 47 false (.not (.t 51)),
  o1 53 (.pick (.t 47) (.c (.bool true)) (.t 52)),
  o1 54 (.mov (.t 53)),
  o2 55 54 false (.mov (.t 14)),
  o2 56 54 false (.bin .and (.t 55) (.i 1)),
  o2 57 54 false (.mov (.t 3)),
  o2 58 54 false (.bin .eql (.t 56) (.t 57)),
  o1 59 (.pick (.t 54) (.c (.bool true)) (.t 58)),
  o1 60 (.mov (.t 59)),
  o2 61 60 false (.mov (.t 12)),
  o2 62 60 false (.mov (.t 14)),
  o2 63 60 false (.lkp none (.int .i64 0) (.t 61) (.t 62)),
  o2 64 60 false (.bin .eql (.t 63) (.i 1)),
  o1 65 (.pick (.t 60) (.c (.bool true)) (.t 64))]
def r125_14 : List MOper := [o1 66 (.mov (.t 12)),
  o1 67 (.mov (.t 14)),
  n1 (.mup none (.t 66) (.t 67) (.i 1))]
def r125_15 : List MOper := [o1 68 (.mov (.t 0)),
  o1 69 (.len (.t 68)),
  o1 70 (.mksl 1 (.bool false) (.t 69)),
  o1 15 (.mov (.t 70))]
def r125_16 : List MOper := [o1 71 (.mov (.t 15)),
  o1 72 (.len (.t 71)),
  o1 73 (.mov (.i 0))]
def r125_17 : List MOper := [o1 74 (.bin .lss (.t 73) (.t 72))]
def r125_18 : List MOper := [o1 75 (.mov (.t 73)),
  o1 16 (.mov (.t 75))]
def r125_19 : List MOper := [o1 76 (.mov (.t 15)),
  o1 77 (.mov (.t 16)),
  o1 78 (.mov (.t 11)),
  o1 79 (.mov (.t 16)),
  o1 80 (.ixs 1 (.t 78) (.t 79)),
  o1 81 (.ld false 1 (.t 80)),
  o1 82 (.mov (.t 81)),
  o2 83 82 true (.mov (.t 1)),
  o2 84 82 true (.mov (.t 16)),
  o2 85 82 true (.ixs 1 (.t 83) (.t 84)),
  o2 86 82 true (.ld false 1 (.t 85)),
  o2 87 82 true (.mov (.t 14)),
  o2 88 82 true (.bin .leq (.t 86) (.t 87)),
  o1 89 (.pick (.t 82) (.t 88) (.c (.bool false))),
  o1 90 (.ixs 1 (.t 76) (.t 77)),
  n1 (.st 1 (.t 90) (.t 89))]
def r125_20 : List MOper := [o1 91 (.bin .add (.t 73) (.i 1)),
  o1 73 (.mov (.t 91))]
def b125_3 : MCode := .seq (.reg false r125_17 [0, 1, 3, 11, 12, 14, 15, 36, 37, 38, 72, 73, 74])
 (.seq (.cond 74 (.skip) (.exit 4))
 (.seq (.block 5 (.seq (.reg false r125_18 [0, 1, 3, 11, 12, 14, 15, 16, 36, 37, 38, 72, 73])
 (.reg false r125_19 [0, 1, 3, 11, 12, 14, 15, 36, 37, 38, 72, 73])))
 (.reg false r125_20 [0, 1, 3, 11, 12, 14, 15, 36, 37, 38, 72, 73])))
def r125_21 : List MOper := [o1 92 (.mov (.t 0)),
  o1 93 (.mov (.t 15)),
  o1 94 (.call 153 [(.t 92), (.t 93)]),
  o1 95 (.len (.t 94)),
  o1 96 (.mov (.i 0))]
def r125_22 : List MOper := [o1 97 (.bin .lss (.t 96) (.t 95))]
def r125_23 : List MOper := [o1 98 (.mov (.t 96)),
  o1 99 (.ixs 1 (.t 94) (.t 96)),
  o1 100 (.ld false 1 (.t 99)),
  o1 17 (.mov (.t 98)),
  o1 18 (.mov (.t 100))]
def r125_24 : List MOper := [o1 101 (.mov (.t 18)),
  o1 102 (.bin .geq (.t 101) (.i 0)),
  o1 103 (.mov (.t 102)),
  o2 104 103 true (.mov (.t 1)),
  o2 105 103 true (.mov (.t 17)),
  o2 106 103 true (.ixs 1 (.t 104) (.t 105)),
  o2 107 103 true (.ld false 1 (.t 106)),
  o2 108 103 true (.mov (.t 14)),
  o2 109 103 true (.bin .eql (.t 107) (.t 108)),
  o1 110 (.pick (.t 103) (.t 109) (.c (.bool false)))]
def r125_25 : List MOper := [o1 8 (.mov (.c (.bool false)))]
def r125_26 : List MOper := [o1 111 (.bin .add (.t 96) (.i 1)),
  o1 96 (.mov (.t 111))]
def b125_4 : MCode := .seq (.reg false r125_22 [0, 1, 3, 11, 12, 14, 36, 37, 38, 94, 95, 96, 97])
 (.seq (.cond 97 (.skip) (.exit 6))
 (.seq (.block 7 (.seq (.reg false r125_23 [0, 1, 3, 11, 12, 14, 17, 18, 36, 37, 38, 94, 95, 96])
 (.seq (.reg false r125_24 [0, 1, 3, 11, 12, 14, 36, 37, 38, 94, 95, 96, 110])
 (.cond 110 (.seq (.reg false r125_25 [8])
 (.ret)) (.skip)))))
 (.reg false r125_26 [0, 1, 3, 11, 12, 14, 36, 37, 38, 94, 95, 96])))
def r125_27 : List MOper := [o1 112 (.bin .add (.t 38) (.i 1)),
  o1 38 (.mov (.t 112))]
def b125_2 : MCode := .seq (.reg false r125_11 [0, 1, 3, 11, 12, 36, 37, 38, 39])
 (.seq (.cond 39 (.skip) (.exit 2))
 (.seq (.block 3 (.seq (.reg false r125_12 [0, 1, 3, 11, 12, 13, 14, 36, 37, 38])
 (.seq (.seq (.reg false r125_13 [0, 1, 3, 11, 12, 14, 36, 37, 38, 65])
 (.cond 65 (.exit 3) (.skip)))
 (.seq (.reg false r125_14 [0, 1, 3, 11, 12, 14, 36, 37, 38])
 (.seq (.reg false r125_15 [0, 1, 3, 11, 12, 14, 15, 36, 37, 38])
 (.seq (.seq (.reg false r125_16 [0, 1, 3, 11, 12, 14, 15, 36, 37, 38, 72, 73])
 (.block 4 (.loop [0, 1, 3, 11, 12, 14, 15, 36, 37, 38, 72, 73] b125_3)))
 (.seq (.reg false r125_21 [0, 1, 3, 11, 12, 14, 36, 37, 38, 94, 95, 96])
 (.block 6 (.loop [0, 1, 3, 11, 12, 14, 36, 37, 38, 94, 95, 96] b125_4)))))))))
 (.reg false r125_27 [0, 1, 3, 11, 12, 36, 37, 38])))
def r125_28 : List MOper := [o1 8 (.mov (.c (.bool true)))]
def c125 : MCode := .seq (.reg false r125_1 [0, 1, 2, 3])
 (.seq (.reg false r125_2 [0, 1, 2, 3, 9])
 (.seq (.seq (.reg false r125_3 [0, 1, 2, 3, 9, 23, 24])
 (.block 0 (.loop [0, 1, 2, 3, 9, 23, 24] b125_1)))
 (.seq (.reg false r125_8 [0, 1, 3, 11])
 (.seq (.reg false r125_9 [0, 1, 3, 11, 12])
 (.seq (.seq (.reg false r125_10 [0, 1, 3, 11, 12, 36, 37, 38])
 (.block 2 (.loop [0, 1, 3, 11, 12, 36, 37, 38] b125_2)))
 (.seq (.reg false r125_28 [8])
 (.ret)))))))
def m125 : MFunc := ⟨3, [.tmp 8], c125⟩
def r126_1 : List MOper := [o1 2 (.mov (.c (.bool false)))]
def r126_2 : List MOper := [o1 7 (.mov (.t 0)),
  o1 8 (.len (.t 7)),
  o1 9 (.bin .gtr (.t 8) (.i 12000))]
def r126_3 : List MOper := [o1 2 (.mov (.c (.bool false)))]
def r126_4 : List MOper := [o1 10 (.mov (.t 0)),
  o1 11 (.len (.t 10)),
  o1 12 (.mov (.i 0))]
def r126_5 : List MOper := [o1 13 (.bin .lss (.t 12) (.t 11))]
def r126_6 : List MOper := [o1 14 (.ixs 1 (.t 10) (.t 12)),
  o1 15 (.ld false 1 (.t 14)),
  o1 4 (.mov (.t 15))]
def r126_7 : List MOper := [o1 16 (.mov (.t 4)),
  o1 17 (.len (.t 16)),
  o1 18 (.mov (.i 0))]
def r126_8 : List MOper := [o1 19 (.bin .lss (.t 18) (.t 17))]
def r126_9 : List MOper := [o1 20 (.ixs 1 (.t 16) (.t 18)),
  o1 21 (.ld false 1 (.t 20)),
  o1 6 (.mov (.t 21))]
def r126_10 : List MOper := [o1 22 (.mov (.t 6)),
  o1 23 (.bin .lss (.t 22) (.i 0)),
  o1 24 (.mov (.t 23)),
  o2 25 24 false (.mov (.t 6)),
  o2 26 24 false (.mov (.t 0)),
  o2 27 24 false (.len (.t 26)),
  o2 28 24 false (.bin .geq (.t 25) (.t 27)),
  o1 29 (.pick (.t 24) (.c (.bool true)) (.t 28))]
def r126_11 : List MOper := [o1 2 (.mov (.c (.bool false)))]
def r126_12 : List MOper := [o1 30 (.bin .add (.t 18) (.i 1)),
  o1 18 (.mov (.t 30))]
def b126_2 : MCode := .seq (.reg false r126_8 [0, 10, 11, 12, 16, 17, 18, 19])
 (.seq (.cond 19 (.skip) (.exit 2))
 (.seq (.block 3 (.seq (.reg false r126_9 [0, 6, 10, 11, 12, 16, 17, 18])
 (.seq (.reg false r126_10 [0, 10, 11, 12, 16, 17, 18, 29])
 (.cond 29 (.seq (.reg false r126_11 [2])
 (.ret)) (.skip)))))
 (.reg false r126_12 [0, 10, 11, 12, 16, 17, 18])))
def r126_13 : List MOper := [o1 31 (.bin .add (.t 12) (.i 1)),
  o1 12 (.mov (.t 31))]
def b126_1 : MCode := .seq (.reg false r126_5 [0, 10, 11, 12, 13])
 (.seq (.cond 13 (.skip) (.exit 0))
 (.seq (.block 1 (.seq (.reg false r126_6 [0, 4, 10, 11, 12])
 (.seq (.reg false r126_7 [0, 10, 11, 12, 16, 17, 18])
 (.block 2 (.loop [0, 10, 11, 12, 16, 17, 18] b126_2)))))
 (.reg false r126_13 [0, 10, 11, 12])))
def r126_14 : List MOper := [o1 2 (.mov (.c (.bool true)))]
def c126 : MCode := .seq (.reg false r126_1 [0])
 (.seq (.seq (.reg false r126_2 [0, 9])
 (.cond 9 (.seq (.reg false r126_3 [2])
 (.ret)) (.skip)))
 (.seq (.seq (.reg false r126_4 [0, 10, 11, 12])
 (.block 0 (.loop [0, 10, 11, 12] b126_1)))
 (.seq (.reg false r126_14 [2])
 (.ret))))
def m126 : MFunc := ⟨3, [.tmp 2], c126⟩
def r127_1 : List MOper := [o1 4 (.mov (.c (.fz .isnil 1 [])))]
def r127_2 : List MOper := [o1 12 (.mov (.t 0)),
  o1 13 (.len (.t 12)),
  o1 14 (.mksl 1 (.bool false) (.t 13)),
  o1 5 (.alloc [.fz .isnil 1 []] []),
  n1 (.st 1 (.t 5) (.t 14))]
def r127_3 : List MOper := [o1 6 (.alloc [.fz .isnil 1 []] [])]
def r127_4 : List MOper := [o1 15 (.mkfn 159 [] [(.t 5), (.t 6)]),
  o1 7 (.mov (.t 15))]
def r127_5 : List MOper := [o1 16 (.mov (.t 0)),
  o1 17 (.len (.t 16)),
  o1 18 (.mov (.i 0))]
def r127_6 : List MOper := [o1 19 (.bin .lss (.t 18) (.t 17))]
def r127_7 : List MOper := [o1 20 (.mov (.t 18)),
  o1 8 (.mov (.t 20))]
def r127_8 : List MOper := [o1 21 (.mov (.t 1)),
  o1 22 (.mov (.t 8)),
  o1 23 (.call 160 [(.t 21), (.t 22)])]
def r127_9 : List MOper := [o1 24 (.mov (.t 7)),
  o1 25 (.mov (.t 8)),
  o1 26 (.callv (.t 24) [(.t 25)])]
def r127_10 : List MOper := [o1 27 (.bin .add (.t 18) (.i 1)),
  o1 18 (.mov (.t 27))]
def b127_1 : MCode := .seq (.reg false r127_6 [0, 1, 5, 6, 7, 17, 18, 19])
 (.seq (.cond 19 (.skip) (.exit 0))
 (.seq (.block 1 (.seq (.reg false r127_7 [0, 1, 5, 6, 7, 8, 17, 18])
 (.seq (.reg false r127_8 [0, 1, 5, 6, 7, 8, 17, 18, 23])
 (.cond 23 (.reg false r127_9 [0, 1, 5, 6, 7, 17, 18]) (.skip)))))
 (.reg false r127_10 [0, 1, 5, 6, 7, 17, 18])))
def r127_11 : List MOper := [o1 28 (.ld false 1 (.t 6)),
  o1 29 (.len (.t 28)),
  o1 30 (.bin .gtr (.t 29) (.i 0))]
def r127_12 : List MOper := [o1 31 (.ld false 1 (.t 6)),
  o1 32 (.ld false 1 (.t 6)),
  o1 33 (.len (.t 32)),
  o1 34 (.bin .sub (.t 33) (.i 1)),
  o1 35 (.ixs 1 (.t 31) (.t 34)),
  o1 36 (.ld false 1 (.t 35)),
  o1 9 (.mov (.t 36))]
def r127_13 : List MOper := [o1 37 (.ld false 1 (.t 6)),
  o1 38 (.ld false 1 (.t 6)),
  o1 39 (.len (.t 38)),
  o1 40 (.bin .sub (.t 39) (.i 1)),
  o1 41 (.slc 1 (.t 37) none (some (.t 40))),
  n1 (.st 1 (.t 6) (.t 41))]
def r127_14 : List MOper := [o1 42 (.mov (.t 0)),
  o1 43 (.mov (.t 9)),
  o1 44 (.ixs 1 (.t 42) (.t 43)),
  o1 45 (.ld false 1 (.t 44)),
  o1 46 (.len (.t 45)),
  o1 47 (.mov (.i 0))]
def r127_15 : List MOper := [o1 48 (.bin .lss (.t 47) (.t 46))]
def r127_16 : List MOper := [o1 49 (.ixs 1 (.t 45) (.t 47)),
  o1 50 (.ld false 1 (.t 49)),
  o1 11 (.mov (.t 50))]
def r127_17 : List MOper := [o1 51 (.mov (.t 7)),
  o1 52 (.mov (.t 11)),
  o1 53 (.callv (.t 51) [(.t 52)])]
def r127_18 : List MOper := [o1 54 (.bin .add (.t 47) (.i 1)),
  o1 47 (.mov (.t 54))]
def b127_3 : MCode := .seq (.reg false r127_15 [0, 5, 6, 7, 45, 46, 47, 48])
 (.seq (.cond 48 (.skip) (.exit 4))
 (.seq (.block 5 (.seq (.reg false r127_16 [0, 5, 6, 7, 11, 45, 46, 47])
 (.reg false r127_17 [0, 5, 6, 7, 45, 46, 47])))
 (.reg false r127_18 [0, 5, 6, 7, 45, 46, 47])))
def b127_2 : MCode := .seq (.seq (.reg false r127_11 [0, 5, 6, 7, 30])
 (.cond 30 (.skip) (.exit 2)))
 (.block 3 (.seq (.reg false r127_12 [0, 5, 6, 7, 9])
 (.seq (.reg false r127_13 [0, 5, 6, 7, 9])
 (.seq (.reg false r127_14 [0, 5, 6, 7, 45, 46, 47])
 (.block 4 (.loop [0, 5, 6, 7, 45, 46, 47] b127_3))))))
def r127_19 : List MOper := [o1 55 (.ld false 1 (.t 5)),
  o1 4 (.mov (.t 55))]
def c127 : MCode := .seq (.reg false r127_1 [0, 1])
 (.seq (.reg false r127_2 [0, 1, 5])
 (.seq (.reg false r127_3 [0, 1, 5, 6])
 (.seq (.reg false r127_4 [0, 1, 5, 6, 7])
 (.seq (.seq (.reg false r127_5 [0, 1, 5, 6, 7, 17, 18])
 (.block 0 (.loop [0, 1, 5, 6, 7, 17, 18] b127_1)))
 (.seq (.block 2 (.loop [0, 5, 6, 7] b127_2))
 (.seq (.reg false r127_19 [4])
 (.ret)))))))
def m127 : MFunc := ⟨3, [.tmp 4], c127⟩
def r128_1 : List MOper := [o1 4 (.mov (.c (.bool false)))]
def r128_2 : List MOper := [o1 5 (.ld false 1 (.t 1)),
  o1 6 (.mov (.t 0)),
  o1 7 (.call 99 [(.t 5), (.t 6)]),
  o1 8 (.mov (.t 7)),
  o2 9 8 false (.ld false 1 (.t 2)),
  o2 10 8 false (.mov (.t 0)),
  o2 11 8 false (.call 99 [(.t 9), (.t 10)]),
  o1 12 (.pick (.t 8) (.c (.bool true)) (.t 11)),
  o1 4 (.mov (.t 12))]
def c128 : MCode := .seq (.reg false r128_1 [0, 1, 2])
 (.seq (.reg false r128_2 [4])
 (.ret))
def m128 : MFunc := ⟨1, [.tmp 4], c128⟩
def r129_1 : List MOper := [o1 4 (.mov (.c (.bool false)))]
def r129_2 : List MOper := [o1 5 (.mov (.i (-1)))]
def r129_3 : List MOper := [o1 8 (.mov (.t 0)),
  o1 9 (.len (.t 8)),
  o1 10 (.mov (.i 0))]
def r129_4 : List MOper := [o1 11 (.bin .lss (.t 10) (.t 9))]
def r129_5 : List MOper := [o1 12 (.ixs 1 (.t 8) (.t 10)),
  o1 13 (.ld false 1 (.t 12)),
  o1 7 (.mov (.t 13))]
def r129_6 : List MOper := [o1 14 (.mov (.t 7)),
  o1 15 (.mov (.t 5)),
  o1 16 (.bin .leq (.t 14) (.t 15)),
  o1 17 (.mov (.t 16)),
  o2 18 17 false (.mov (.t 7)),
  o2 19 17 false (.mov (.t 1)),
  o2 20 17 false (.bin .geq (.t 18) (.t 19)),
  o1 21 (.pick (.t 17) (.c (.bool true)) (.t 20))]
def r129_7 : List MOper := [o1 4 (.mov (.c (.bool false)))]
def r129_8 : List MOper := [o1 22 (.mov (.t 7)),
  o1 5 (.mov (.t 22))]
def r129_9 : List MOper := [o1 23 (.bin .add (.t 10) (.i 1)),
  o1 10 (.mov (.t 23))]
def b129_1 : MCode := .seq (.reg false r129_4 [1, 5, 8, 9, 10, 11])
 (.seq (.cond 11 (.skip) (.exit 0))
 (.seq (.block 1 (.seq (.reg false r129_5 [1, 5, 7, 8, 9, 10])
 (.seq (.seq (.reg false r129_6 [1, 7, 8, 9, 10, 21])
 (.cond 21 (.seq (.reg false r129_7 [4])
 (.ret)) (.skip)))
 (.reg false r129_8 [1, 5, 8, 9, 10]))))
 (.reg false r129_9 [1, 5, 8, 9, 10])))
def r129_10 : List MOper := [o1 4 (.mov (.c (.bool true)))]
def c129 : MCode := .seq (.reg false r129_1 [0, 1])
 (.seq (.reg false r129_2 [0, 1, 5])
 (.seq (.seq (.reg false r129_3 [1, 5, 8, 9, 10])
 (.block 0 (.loop [1, 5, 8, 9, 10] b129_1)))
 (.seq (.reg false r129_10 [4])
 (.ret))))
def m129 : MFunc := ⟨3, [.tmp 4], c129⟩
def r130_1 : List MOper := [o1 3 (.box (.t 0)),
  o1 6 (.mov (.c (.fz .isnil 1 [])))]
def r130_2 : List MOper := [o1 13 (.ld true 2 (.t 3)),
  o1 14 (.mov (.t 1)),
  o1 15 (.mov (.t 2)),
  o1 16 (.call 145 [(.t 13), (.t 14), (.t 15)]),
  o1 7 (.mov (.t 16))]
def r130_3 : List MOper := [o1 17 (.mov (.t 7)),
  o1 18 (.isn (.t 17))]
def r130_4 : List MOper := [o1 6 (.mov (.c (.fz .isnil 1 [])))]
def r130_5 : List MOper := [o1 19 (.mov (.t 7)),
  o1 20 (.len (.t 19)),
  o1 21 (.mksl 1 (.int .i64 0) (.t 20)),
  o1 8 (.mov (.t 21))]
def r130_6 : List MOper := [o1 22 (.mov (.t 7)),
  o1 23 (.len (.t 22)),
  o1 24 (.mov (.i 0))]
def r130_7 : List MOper := [o1 25 (.bin .lss (.t 24) (.t 23))]
def r130_8 : List MOper := [o1 26 (.mov (.t 24)),
  o1 27 (.ixs 1 (.t 22) (.t 24)),
  o1 28 (.ld false 1 (.t 27)),
  o1 9 (.mov (.t 26)),
  o1 10 (.mov (.t 28))]
def r130_9 : List MOper := [o1 29 (.mov (.t 8)),
  o1 30 (.mov (.t 9)),
  o1 31 (.ixs 1 (.t 29) (.t 30)),
  n1 (.st 1 (.t 31) (.i (-1)))]
def r130_10 : List MOper := [o1 32 (.fld 0 (.t 3)),
  o1 33 (.ld false 1 (.t 32)),
  o1 34 (.mov (.t 9)),
  o1 35 (.ixs 1 (.t 33) (.t 34)),
  o1 36 (.ld false 1 (.t 35)),
  o1 37 (.mov (.t 1)),
  o1 38 (.bin .neq (.t 36) (.t 37)),
  o1 39 (.mov (.t 38)),
  o2 40 39 false (.mov (.t 10)),
  o2 41 39 false (.bin .lss (.t 40) (.i 1)),
  o1 42 (.pick (.t 39) (.c (.bool true)) (.t 41))]
def r130_11 : List MOper := [o1 43 (.fld 1 (.t 3)),
  o1 44 (.ld false 1 (.t 43)),
  o1 45 (.mov (.t 9)),
  o1 46 (.ixs 1 (.t 44) (.t 45)),
  o1 47 (.ld false 1 (.t 46)),
  o1 48 (.len (.t 47)),
  o1 49 (.mov (.i 0))]
def r130_12 : List MOper := [o1 50 (.bin .lss (.t 49) (.t 48))]
def r130_13 : List MOper := [o1 51 (.ixs 1 (.t 47) (.t 49)),
  o1 52 (.ld false 1 (.t 51)),
  o1 12 (.mov (.t 52))]
def r130_14 : List MOper := [o1 53 (.mov (.t 7)),
  o1 54 (.mov (.t 12)),
  o1 55 (.ixs 1 (.t 53) (.t 54)),
  o1 56 (.ld false 1 (.t 55)),
  o1 57 (.bin .geq (.t 56) (.i 0)),
  o1 58 (.mov (.t 57)),
  o2 59 58 true (.mov (.t 7)),
  o2 60 58 true (.mov (.t 12)),
  o2 61 58 true (.ixs 1 (.t 59) (.t 60)),
  o2 62 58 true (.ld false 1 (.t 61)),
  o2 63 58 true (.mov (.t 10)),
  o2 64 58 true (.bin .lss (.t 62) (.t 63)),
  o1 65 (.pick (.t 58) (.t 64) (.c (.bool false)))]
def r130_15 : List MOper := [o1 66 (.mov (.t 8)),
  o1 67 (.mov (.t 9)),
  o1 68 (.mov (.t 12)),
  o1 69 (.ixs 1 (.t 66) (.t 67)),
  n1 (.st 1 (.t 69) (.t 68))]
def r130_16 : List MOper := [o1 70 (.bin .add (.t 49) (.i 1)),
  o1 49 (.mov (.t 70))]
def b130_2 : MCode := .seq (.reg false r130_12 [1, 3, 7, 8, 9, 10, 22, 23, 24, 47, 48, 49, 50])
 (.seq (.cond 50 (.skip) (.exit 2))
 (.seq (.block 3 (.seq (.reg false r130_13 [1, 3, 7, 8, 9, 10, 12, 22, 23, 24, 47, 48, 49])
 (.seq (.reg false r130_14 [1, 3, 7, 8, 9, 10, 12, 22, 23, 24, 47, 48, 49, 65])
 (.cond 65 (.seq (.reg false r130_15 [1, 3, 7, 8, 22, 23, 24])
 (.exit 2)) (.skip)))))
 (.reg false r130_16 [1, 3, 7, 8, 9, 10, 22, 23, 24, 47, 48, 49])))
def r130_17 : List MOper := [o1 71 (.bin .add (.t 24) (.i 1)),
  o1 24 (.mov (.t 71))]
def b130_1 : MCode := .seq (.reg false r130_7 [1, 3, 7, 8, 22, 23, 24, 25])
 (.seq (.cond 25 (.skip) (.exit 0))
 (.seq (.block 1 (.seq (.reg false r130_8 [1, 3, 7, 8, 9, 10, 22, 23, 24])
 (.seq (.reg false r130_9 [1, 3, 7, 8, 9, 10, 22, 23, 24])
 (.seq (.seq (.reg false r130_10 [1, 3, 7, 8, 9, 10, 22, 23, 24, 42])
 (.cond 42 (.exit 1) (.skip)))
 (.seq (.reg false r130_11 [1, 3, 7, 8, 9, 10, 22, 23, 24, 47, 48, 49])
 (.block 2 (.loop [1, 3, 7, 8, 9, 10, 22, 23, 24, 47, 48, 49] b130_2)))))))
 (.reg false r130_17 [1, 3, 7, 8, 22, 23, 24])))
def r130_18 : List MOper := [o1 72 (.mov (.t 8)),
  o1 6 (.mov (.t 72))]
def c130 : MCode := .seq (.reg false r130_1 [1, 2, 3])
 (.seq (.reg false r130_2 [1, 3, 7])
 (.seq (.seq (.reg false r130_3 [1, 3, 7, 18])
 (.cond 18 (.seq (.reg false r130_4 [6])
 (.ret)) (.skip)))
 (.seq (.reg false r130_5 [1, 3, 7, 8])
 (.seq (.seq (.reg false r130_6 [1, 3, 7, 8, 22, 23, 24])
 (.block 0 (.loop [1, 3, 7, 8, 22, 23, 24] b130_1)))
 (.seq (.reg false r130_18 [6])
 (.ret))))))
def m130 : MFunc := ⟨3, [.tmp 6], c130⟩
def r131_1 : List MOper := [o1 8 (.mov (.t 2)),
  o1 9 (.len (.t 8)),
  o1 10 (.mov (.i 0))]
def r131_2 : List MOper := [o1 11 (.bin .lss (.t 10) (.t 9))]
def r131_3 : List MOper := [o1 12 (.mov (.t 10)),
  o1 13 (.ixs 1 (.t 8) (.t 10)),
  o1 14 (.ld false 1 (.t 13)),
  o1 6 (.mov (.t 12)),
  o1 7 (.mov (.t 14))]
def r131_4 : List MOper := [o1 15 (.mov (.t 7))]
def r131_5 : List MOper := [o1 16 (.mov (.t 0)),
  o1 17 (.nilck (.t 16)),
  o1 18 (.fld 3 (.t 17)),
  o1 19 (.ld false 1 (.t 18)),
  o1 20 (.mov (.t 6)),
  o1 21 (.mov (.t 1)),
  o1 22 (.ixs 1 (.t 19) (.t 20)),
  n1 (.st 1 (.t 22) (.t 21))]
def r131_6 : List MOper := [o1 23 (.bin .add (.t 10) (.i 1)),
  o1 10 (.mov (.t 23))]
def b131_1 : MCode := .seq (.reg false r131_2 [0, 1, 8, 9, 10, 11])
 (.seq (.cond 11 (.skip) (.exit 0))
 (.seq (.block 1 (.seq (.reg false r131_3 [0, 1, 6, 7, 8, 9, 10])
 (.seq (.reg false r131_4 [0, 1, 6, 8, 9, 10, 15])
 (.cond 15 (.reg false r131_5 [0, 1, 8, 9, 10]) (.skip)))))
 (.reg false r131_6 [0, 1, 8, 9, 10])))
def c131 : MCode := .seq (.reg false r131_1 [0, 1, 8, 9, 10])
 (.block 0 (.loop [0, 1, 8, 9, 10] b131_1))
def m131 : MFunc := ⟨0, [], c131⟩
def r132_1 : List MOper := [o1 6 (.mov (.c (.fz .isnil 1 [])))]
def q132_2 : List MOper := [o1 7 (.mov (.t 0)),
  o1 8 (.nilck (.t 7)),
  o1 9 (.fld 0 (.t 8)),
  ox (some 10) none .R false (.ld true 2 (.t 9)),
  o1 11 (.mov (.t 1)),
  o1 12 (.mov (.t 0)),
  o1 13 (.nilck (.t 12)),
  o1 14 (.fld 0 (.t 13)),
  ox (some 15) none .R false (.ld true 2 (.t 14)),
  o1 16 (.mov (.t 2)),
  ox (some 17) none .R false (.call 41 [(.t 15), (.t 16)]),
  ox (some 18) none .R false (.call 40 [(.t 10), (.t 11), (.t 17)]),
  o1 6 (.mov (.t 18))]
def r132_2 : List MOper := q132_2
def c132 : MCode := .seq (.reg false r132_1 [0, 1, 2])
 (.seq (.reg true r132_2 [6])
 (.ret))
def m132 : MFunc := ⟨1, [.tmp 6], c132⟩
def r133_1 : List MOper := [o1 4 (.mov (.t 0)),
  o1 5 (.mov (.t 0)),
  o1 6 (.nilck (.t 5)),
  o1 7 (.fld 5 (.t 6)),
  o1 8 (.ld false 1 (.t 7)),
  o1 9 (.mov (.t 1)),
  o1 10 (.build [.fz .isnil 1 [], .int .i64 0, .int .i64 0, .fz .isnil 1 [], .fz .isnil 1 []] [] [(0, 1, (.t 9))]),
  o1 11 (.box (.t 10)),
  o1 12 (.bsl false 1 [(.t 11)]),
  o1 13 (.app 1 (.t 8) (.t 12)),
  o1 14 (.nilck (.t 4)),
  o1 15 (.fld 5 (.t 14)),
  n1 (.st 1 (.t 15) (.t 13))]
def c133 : MCode := .reg false r133_1 []
def m133 : MFunc := ⟨0, [], c133⟩
def r134_1 : List MOper := [o1 1 (.box (.t 0))]
def r134_2 : List MOper := [o1 4 (.ld false 1 (.t 1)),
  o1 5 (.mkfn 161 [(.t 4)] []),
  o1 6 (.ld false 1 (.t 1)),
  o1 7 (.mkfn 162 [(.t 6)] []),
  o1 8 (.mkfn 163 [] [(.t 1)]),
  o1 9 (.bsl false 1 [(.t 5), (.t 7), (.t 8)]),
  o1 2 (.mov (.t 9))]
def r134_3 : List MOper := [o1 10 (.ld false 1 (.t 1)),
  o1 11 (.nilck (.t 10)),
  o1 12 (.fld 5 (.t 11)),
  o1 13 (.ld false 1 (.t 12)),
  o1 14 (.len (.t 13)),
  o1 15 (.bin .gtr (.t 14) (.i 0))]
def q134_4 : List MOper := [ox (some 16) none .R false (.ld false 1 (.t 1)),
  o1 17 (.nilck (.t 16)),
  o1 18 (.fld 5 (.t 17)),
  ox (some 19) none .R false (.ld false 1 (.t 18)),
  ox (some 20) none .R false (.ld false 1 (.t 1)),
  o1 21 (.nilck (.t 20)),
  o1 22 (.fld 5 (.t 21)),
  ox (some 23) none .R false (.ld false 1 (.t 22)),
  o1 24 (.len (.t 23)),
  o1 25 (.bin .sub (.t 24) (.i 1)),
  o1 26 (.ixs 1 (.t 19) (.t 25)),
  ox (some 27) none .R false (.ld false 1 (.t 26)),
  o1 3 (.mov (.t 27))]
def r134_4 : List MOper := q134_4
def q134_5 : List MOper := [ox (some 28) none .R false (.ld false 1 (.t 1)),
  o1 29 (.mov (.t 3)),
  o1 30 (.nilck (.t 29)),
  o1 31 (.fld 0 (.t 30)),
  ox (some 32) none .R false (.ld false 1 (.t 31)),
  ox (some 33) none .R false (.call 165 [(.t 28), (.t 32)]),
  o1 34 (.not (.t 33))]
def r134_5 : List MOper := q134_5
def r134_6 : List MOper := [o1 35 (.ld false 1 (.t 1)),
  o1 36 (.call 164 [(.t 35)])]
def r134_7 : List MOper := [o1 37 (.mov (.t 2)),
  o1 38 (.mov (.t 3)),
  o1 39 (.nilck (.t 38)),
  o1 40 (.fld 1 (.t 39)),
  o1 41 (.ld false 1 (.t 40)),
  o1 42 (.ixs 1 (.t 37) (.t 41)),
  o1 43 (.ld false 1 (.t 42)),
  o1 44 (.mov (.t 3)),
  o1 45 (.callv (.t 43) [(.t 44)])]
def b134_1 : MCode := .seq (.seq (.reg false r134_3 [1, 2, 15])
 (.cond 15 (.skip) (.exit 0)))
 (.block 1 (.seq (.reg true r134_4 [1, 2, 3])
 (.seq (.seq (.reg true r134_5 [1, 2, 3, 34])
 (.cond 34 (.seq (.reg false r134_6 [1, 2])
 (.exit 1)) (.skip)))
 (.reg false r134_7 [1, 2]))))
def c134 : MCode := .seq (.reg false r134_1 [1])
 (.seq (.reg false r134_2 [1, 2])
 (.block 0 (.loop [1, 2] b134_1)))
def m134 : MFunc := ⟨0, [], c134⟩
def r135_1 : List MOper := [o1 2 (.box (.t 0)),
  o1 4 (.mov (.c (.fz .isnil 4 [])))]
def r135_2 : List MOper := [o1 15 (.ld true 2 (.t 2)),
  o1 16 (.mov (.t 1)),
  o1 17 (.call 29 [(.t 15), (.t 16)]),
  o1 18 (.not (.t 17))]
def r135_3 : List MOper := [o1 4 (.mov (.c (.fz .isnil 4 [])))]
def r135_4 : List MOper := [o1 5 (.alloc [.int .i64 0, .int .i64 0, .int .i64 0] [])]
def r135_5 : List MOper := [o1 19 (.mov (.t 1)),
  o1 20 (.len (.t 19)),
  o1 21 (.mov (.i 0))]
def r135_6 : List MOper := [o1 22 (.bin .lss (.t 21) (.t 20))]
def r135_7 : List MOper := [o1 23 (.ixs 1 (.t 19) (.t 21)),
  o1 24 (.ld false 1 (.t 23)),
  o1 7 (.mov (.t 24))]
def r135_8 : List MOper := [o1 25 (.mov (.t 7)),
  o1 26 (.bin .rem (.t 25) (.i 2)),
  o1 27 (.bin .eql (.t 26) (.i 1))]
def r135_9 : List MOper := [o1 28 (.mov (.t 7)),
  o1 29 (.bin .quo (.t 28) (.i 2)),
  o1 30 (.ixa 3 1 (.t 5) (.t 29)),
  o1 31 (.ld false 1 (.t 30)),
  o1 32 (.bin .add (.t 31) (.i 1)),
  o1 33 (.ixa 3 1 (.t 5) (.t 29)),
  n1 (.st 1 (.t 33) (.t 32))]
def r135_10 : List MOper := [o1 34 (.bin .add (.t 21) (.i 1)),
  o1 21 (.mov (.t 34))]
def b135_1 : MCode := .seq (.reg false r135_6 [1, 2, 5, 19, 20, 21, 22])
 (.seq (.cond 22 (.skip) (.exit 0))
 (.seq (.block 1 (.seq (.reg false r135_7 [1, 2, 5, 7, 19, 20, 21])
 (.seq (.reg false r135_8 [1, 2, 5, 7, 19, 20, 21, 27])
 (.cond 27 (.reg false r135_9 [1, 2, 5, 19, 20, 21]) (.skip)))))
 (.reg false r135_10 [1, 2, 5, 19, 20, 21])))
def r135_11 : List MOper := [o1 35 (.mov (.t 1)),
  o1 36 (.len (.t 35)),
  o1 37 (.mksl 4 (.agg [.int .i64 0, .int .i64 0, .int .i64 0, .bool false]) (.t 36)),
  o1 8 (.mov (.t 37))]
def r135_12 : List MOper := [o1 9 (.mov (.c (.bool false)))]
def r135_13 : List MOper := [o1 38 (.mov (.t 8)),
  o1 39 (.len (.t 38)),
  o1 40 (.mov (.i 0))]
def r135_14 : List MOper := [o1 41 (.bin .lss (.t 40) (.t 39))]
def r135_15 : List MOper := [o1 42 (.mov (.t 40)),
  o1 10 (.mov (.t 42))]
def r135_16 : List MOper := [o1 43 (.fld 0 (.t 2)),
  o1 44 (.ld false 1 (.t 43)),
  o1 45 (.mov (.t 10)),
  o1 46 (.ixs 1 (.t 44) (.t 45)),
  o1 47 (.ld false 1 (.t 46)),
  o1 48 (.bin .eql (.t 47) (.i 1)),
  o1 49 (.build [.int .i64 0, .int .i64 0, .int .i64 0, .bool false] [] [(3, 1, (.t 48))]),
  o1 11 (.alloc [.int .i64 0, .int .i64 0, .int .i64 0, .bool false] []),
  n1 (.st 4 (.t 11) (.t 49))]
def r135_17 : List MOper := [o1 50 (.fld 1 (.t 2)),
  o1 51 (.ld false 1 (.t 50)),
  o1 52 (.mov (.t 10)),
  o1 53 (.ixs 1 (.t 51) (.t 52)),
  o1 54 (.ld false 1 (.t 53)),
  o1 55 (.len (.t 54)),
  o1 56 (.mov (.i 0))]
def r135_18 : List MOper := [o1 57 (.bin .lss (.t 56) (.t 55))]
def r135_19 : List MOper := [o1 58 (.ixs 1 (.t 54) (.t 56)),
  o1 59 (.ld false 1 (.t 58)),
  o1 13 (.mov (.t 59))]
def q135_20 : List MOper := [o1 60 (.mov (.t 8)),
  o1 61 (.mov (.t 13)),
  o1 62 (.ixs 4 (.t 60) (.t 61)),
  ox (some 63) none .R false (.ld true 4 (.t 62)),
  o1 64 (.mov (.t 1)),
  o1 65 (.mov (.t 10)),
  o1 66 (.ixs 1 (.t 64) (.t 65)),
  ox (some 67) none .R false (.ld false 1 (.t 66)),
  ox (some 68) none .R false (.ld true 3 (.t 5)),
  ox (some 69) none .R false (.call 166 [(.t 63), (.t 67), (.t 68)]),
  ox (some 14) none .A false (.alloc [.int .i64 0, .int .i64 0, .int .i64 0, .bool false] []),
  ox none none .L false (.st 4 (.t 14) (.t 69))]
def r135_20 : List MOper := q135_20
def r135_21 : List MOper := [o1 70 (.fld 0 (.t 2)),
  o1 71 (.ld false 1 (.t 70)),
  o1 72 (.mov (.t 10)),
  o1 73 (.ixs 1 (.t 71) (.t 72)),
  o1 74 (.ld false 1 (.t 73)),
  o1 75 (.bin .eql (.t 74) (.i 1)),
  o1 76 (.mov (.t 75)),
  o2 77 76 true (.ld true 4 (.t 14)),
  o2 78 76 true (.ld true 4 (.t 11)),
  o2 79 76 true (.call 167 [(.t 77), (.t 78)]),
  o1 80 (.pick (.t 76) (.t 79) (.c (.bool false))),
  o1 81 (.mov (.t 80)),
  o2 82 81 false (.fld 0 (.t 2)),
  o2 83 81 false (.ld false 1 (.t 82)),
  o2 84 81 false (.mov (.t 10)),
  o2 85 81 false (.ixs 1 (.t 83) (.t 84)),
  o2 86 81 false (.ld false 1 (.t 85)),
  o2 87 81 false (.bin .eql (.t 86) (.i 0)),
  o2 88 81 false (.mov (.t 87)),
  o2 89 88 true (.ld true 4 (.t 11)),
  o2 90 88 true (.ld true 4 (.t 14)),
  o2 91 88 true (.call 167 [(.t 89), (.t 90)]),
  o2 92 81 false (.pick (.t 88) (.t 91) (.c (.bool false))),
  o1 93 (.pick (.t 81) (.c (.bool true)) (.t 92))]
def r135_22 : List MOper := [o1 94 (.ld true 4 (.t 14)),
  n1 (.st 4 (.t 11) (.t 94))]
def r135_23 : List MOper := [o1 95 (.bin .add (.t 56) (.i 1)),
  o1 56 (.mov (.t 95))]
def b135_4 : MCode := .seq (.reg false r135_18 [1, 2, 5, 8, 9, 10, 11, 39, 40, 54, 55, 56, 57])
 (.seq (.cond 57 (.skip) (.exit 6))
 (.seq (.block 7 (.seq (.reg false r135_19 [1, 2, 5, 8, 9, 10, 11, 13, 39, 40, 54, 55, 56])
 (.seq (.reg true r135_20 [1, 2, 5, 8, 9, 10, 11, 14, 39, 40, 54, 55, 56])
 (.seq (.reg false r135_21 [1, 2, 5, 8, 9, 10, 11, 14, 39, 40, 54, 55, 56, 93])
 (.cond 93 (.reg false r135_22 [1, 2, 5, 8, 9, 10, 11, 39, 40, 54, 55, 56]) (.skip))))))
 (.reg false r135_23 [1, 2, 5, 8, 9, 10, 11, 39, 40, 54, 55, 56])))
def q135_24 : List MOper := [o1 96 (.mov (.t 8)),
  o1 97 (.mov (.t 10)),
  o1 98 (.ixs 4 (.t 96) (.t 97)),
  ox (some 99) none .R false (.ld true 4 (.t 98)),
  ox (some 100) none .R false (.ld true 4 (.t 11)),
  ox (some 101) none .R false (.call 167 [(.t 99), (.t 100)])]
def r135_24 : List MOper := q135_24
def r135_25 : List MOper := [o1 102 (.mov (.t 8)),
  o1 103 (.mov (.t 10)),
  o1 104 (.ld true 4 (.t 11)),
  o1 105 (.ixs 4 (.t 102) (.t 103)),
  n1 (.st 4 (.t 105) (.t 104)),
  o1 9 (.mov (.c (.bool true)))]
def r135_26 : List MOper := [o1 106 (.bin .add (.t 40) (.i 1)),
  o1 40 (.mov (.t 106))]
def b135_3 : MCode := .seq (.reg false r135_14 [1, 2, 5, 8, 9, 39, 40, 41])
 (.seq (.cond 41 (.skip) (.exit 4))
 (.seq (.block 5 (.seq (.reg false r135_15 [1, 2, 5, 8, 9, 10, 39, 40])
 (.seq (.reg false r135_16 [1, 2, 5, 8, 9, 10, 11, 39, 40])
 (.seq (.seq (.reg false r135_17 [1, 2, 5, 8, 9, 10, 11, 39, 40, 54, 55, 56])
 (.block 6 (.loop [1, 2, 5, 8, 9, 10, 11, 39, 40, 54, 55, 56] b135_4)))
 (.seq (.reg true r135_24 [1, 2, 5, 8, 9, 10, 11, 39, 40, 101])
 (.cond 101 (.reg false r135_25 [1, 2, 5, 8, 9, 39, 40]) (.skip)))))))
 (.reg false r135_26 [1, 2, 5, 8, 9, 39, 40])))
def r135_27 : List MOper := [o1 107 (.mov (.t 9)),
  o1 108 (.not (.t 107))]
def r135_28 : List MOper := [o1 109 (.mov (.t 8)),
  o1 4 (.mov (.t 109))]
def b135_2 : MCode := .block 3 (.seq (.reg false r135_12 [1, 2, 5, 8, 9])
 (.seq (.seq (.reg false r135_13 [1, 2, 5, 8, 9, 39, 40])
 (.block 4 (.loop [1, 2, 5, 8, 9, 39, 40] b135_3)))
 (.seq (.reg false r135_27 [1, 2, 5, 8, 108])
 (.cond 108 (.seq (.reg false r135_28 [4])
 (.ret)) (.skip)))))
def c135 : MCode := .seq (.reg false r135_1 [1, 2])
 (.seq (.seq (.reg false r135_2 [1, 2, 18])
 (.cond 18 (.seq (.reg false r135_3 [4])
 (.ret)) (.skip)))
 (.seq (.reg false r135_4 [1, 2, 5])
 (.seq (.seq (.reg false r135_5 [1, 2, 5, 19, 20, 21])
 (.block 0 (.loop [1, 2, 5, 19, 20, 21] b135_1)))
 (.seq (.reg false r135_11 [1, 2, 5, 8])
 (.block 2 (.loop [1, 2, 5, 8] b135_2))))))
def m135 : MFunc := ⟨3, [.tmp 4], c135⟩
def r136_1 : List MOper := [o1 3 (.box (.t 0)),
  o1 6 (.mov (.c (.fz .isnil 1 [])))]
def r136_2 : List MOper := [o1 15 (.ld true 2 (.t 3)),
  o1 16 (.call 35 [(.t 15)]),
  o1 17 (.bin .neq (.t 16) (.i 0)),
  o1 18 (.mov (.t 17)),
  o2 19 18 false (.mov (.t 1)),
  o2 20 18 false (.call 122 [(.t 19)]),
  o2 21 18 false (.not (.t 20)),
  o1 22 (.pick (.t 18) (.c (.bool true)) (.t 21))]
def r136_3 : List MOper := [o1 6 (.mov (.c (.fz .isnil 1 [])))]
def r136_4 : List MOper := [o1 23 (.ld true 2 (.t 3)),
  o1 24 (.mov (.t 2)),
  o1 25 (.call 1112 [(.t 23), (.t 24)]),
  o1 7 (.mov (.t 25))]
def r136_5 : List MOper := [o1 26 (.mov (.t 7)),
  o1 27 (.len (.t 26)),
  o1 28 (.mksl 1 (.int .i64 0) (.t 27)),
  o1 8 (.mov (.t 28))]
def r136_6 : List MOper := [o1 29 (.mov (.t 8)),
  o1 30 (.len (.t 29)),
  o1 31 (.mov (.i 0))]
def r136_7 : List MOper := [o1 32 (.bin .lss (.t 31) (.t 30))]
def r136_8 : List MOper := [o1 33 (.mov (.t 31)),
  o1 9 (.mov (.t 33))]
def r136_9 : List MOper := [o1 34 (.mov (.t 8)),
  o1 35 (.mov (.t 9)),
  o1 36 (.ixs 1 (.t 34) (.t 35)),
  n1 (.st 1 (.t 36) (.i (-1)))]
def r136_10 : List MOper := [o1 37 (.mov (.t 7)),
  o1 38 (.mov (.t 9)),
  o1 39 (.ixs 1 (.t 37) (.t 38)),
  o1 40 (.ld false 1 (.t 39))]
def r136_11 : List MOper := [o1 41 (.mov (.t 8)),
  o1 42 (.mov (.t 9)),
  o1 43 (.ixs 1 (.t 41) (.t 42)),
  n1 (.st 1 (.t 43) (.i 0))]
def r136_12 : List MOper := [o1 44 (.bin .add (.t 31) (.i 1)),
  o1 31 (.mov (.t 44))]
def b136_1 : MCode := .seq (.reg false r136_7 [1, 3, 7, 8, 30, 31, 32])
 (.seq (.cond 32 (.skip) (.exit 0))
 (.seq (.block 1 (.seq (.reg false r136_8 [1, 3, 7, 8, 9, 30, 31])
 (.seq (.reg false r136_9 [1, 3, 7, 8, 9, 30, 31])
 (.seq (.reg false r136_10 [1, 3, 7, 8, 9, 30, 31, 40])
 (.cond 40 (.reg false r136_11 [1, 3, 7, 8, 30, 31]) (.skip))))))
 (.reg false r136_12 [1, 3, 7, 8, 30, 31])))
def r136_13 : List MOper := [o1 10 (.mov (.i 1))]
def r136_14 : List MOper := [o1 45 (.mov (.t 10)),
  o1 46 (.mov (.t 8)),
  o1 47 (.len (.t 46)),
  o1 48 (.bin .leq (.t 45) (.t 47))]
def r136_15 : List MOper := [o1 11 (.mov (.c (.bool false)))]
def r136_16 : List MOper := [o1 51 (.ld true 2 (.t 3)),
  o1 52 (.mov (.t 1)),
  o1 53 (.mov (.t 7)),
  o1 54 (.call 113 [(.t 51), (.t 52), (.t 53)]),
  o1 55 (.len (.t 54)),
  o1 56 (.mov (.i 0))]
def r136_17 : List MOper := [o1 57 (.bin .lss (.t 56) (.t 55))]
def r136_18 : List MOper := [o1 58 (.mov (.t 56)),
  o1 59 (.ixs 1 (.t 54) (.t 56)),
  o1 60 (.ld false 1 (.t 59)),
  o1 12 (.mov (.t 58)),
  o1 13 (.mov (.t 60))]
def r136_19 : List MOper := [o1 61 (.mov (.t 13)),
  o1 62 (.mov (.t 61)),
  o2 63 62 true (.mov (.t 8)),
  o2 64 62 true (.mov (.t 12)),
  o2 65 62 true (.ixs 1 (.t 63) (.t 64)),
  o2 66 62 true (.ld false 1 (.t 65)),
  o2 67 62 true (.bin .lss (.t 66) (.i 0)),
  o1 68 (.pick (.t 62) (.t 67) (.c (.bool false)))]
def r136_20 : List MOper := [o1 69 (.mov (.t 8)),
  o1 70 (.mov (.t 12)),
  o1 71 (.mov (.t 10)),
  o1 72 (.ixs 1 (.t 69) (.t 70)),
  n1 (.st 1 (.t 72) (.t 71)),
  o1 11 (.mov (.c (.bool true)))]
def r136_21 : List MOper := [o1 73 (.bin .add (.t 56) (.i 1)),
  o1 56 (.mov (.t 73))]
def b136_3 : MCode := .seq (.reg false r136_17 [1, 3, 7, 8, 10, 11, 54, 55, 56, 57])
 (.seq (.cond 57 (.skip) (.exit 4))
 (.seq (.block 5 (.seq (.reg false r136_18 [1, 3, 7, 8, 10, 11, 12, 13, 54, 55, 56])
 (.seq (.reg false r136_19 [1, 3, 7, 8, 10, 11, 12, 54, 55, 56, 68])
 (.cond 68 (.reg false r136_20 [1, 3, 7, 8, 10, 11, 54, 55, 56]) (.skip)))))
 (.reg false r136_21 [1, 3, 7, 8, 10, 11, 54, 55, 56])))
def r136_22 : List MOper := [o1 74 (.mov (.t 11)),
  o1 75 (.not (.t 74))]
def r136_23 : List MOper := [o1 76 (.mov (.t 8)),
  o1 77 (.len (.t 76)),
  o1 78 (.mov (.i 0))]
def r136_24 : List MOper := [o1 79 (.bin .lss (.t 78) (.t 77))]
def r136_25 : List MOper := [o1 80 (.mov (.t 78)),
  o1 14 (.mov (.t 80))]
def r136_26 : List MOper := [o1 81 (.mov (.t 7)),
  o1 82 (.mov (.t 14)),
  o1 83 (.mov (.t 8)),
  o1 84 (.mov (.t 14)),
  o1 85 (.ixs 1 (.t 83) (.t 84)),
  o1 86 (.ld false 1 (.t 85)),
  o1 87 (.bin .geq (.t 86) (.i 0)),
  o1 88 (.ixs 1 (.t 81) (.t 82)),
  n1 (.st 1 (.t 88) (.t 87))]
def r136_27 : List MOper := [o1 89 (.bin .add (.t 78) (.i 1)),
  o1 78 (.mov (.t 89))]
def b136_4 : MCode := .seq (.reg false r136_24 [1, 3, 7, 8, 10, 77, 78, 79])
 (.seq (.cond 79 (.skip) (.exit 6))
 (.seq (.block 7 (.seq (.reg false r136_25 [1, 3, 7, 8, 10, 14, 77, 78])
 (.reg false r136_26 [1, 3, 7, 8, 10, 77, 78])))
 (.reg false r136_27 [1, 3, 7, 8, 10, 77, 78])))
def r136_28 : List MOper := [o1 49 (.mov (.t 10)),
  o1 50 (.bin .add (.t 49) (.i 1)),
  o1 10 (.mov (.t 50))]
def b136_2 : MCode := .seq (.seq (.reg false r136_14 [1, 3, 7, 8, 10, 48])
 (.cond 48 (.skip) (.exit 2)))
 (.seq (.block 3 (.seq (.reg false r136_15 [1, 3, 7, 8, 10, 11])
 (.seq (.seq (.reg false r136_16 [1, 3, 7, 8, 10, 11, 54, 55, 56])
 (.block 4 (.loop [1, 3, 7, 8, 10, 11, 54, 55, 56] b136_3)))
 (.seq (.seq (.reg false r136_22 [1, 3, 7, 8, 10, 75])
 (.cond 75 (.exit 2) (.skip)))
 (.seq (.reg false r136_23 [1, 3, 7, 8, 10, 77, 78])
 (.block 6 (.loop [1, 3, 7, 8, 10, 77, 78] b136_4)))))))
 (.reg false r136_28 [1, 3, 7, 8, 10]))
def r136_29 : List MOper := [o1 90 (.mov (.t 8)),
  o1 6 (.mov (.t 90))]
def c136 : MCode := .seq (.reg false r136_1 [1, 2, 3])
 (.seq (.seq (.reg false r136_2 [1, 2, 3, 22])
 (.cond 22 (.seq (.reg false r136_3 [6])
 (.ret)) (.skip)))
 (.seq (.reg false r136_4 [1, 3, 7])
 (.seq (.reg false r136_5 [1, 3, 7, 8])
 (.seq (.seq (.reg false r136_6 [1, 3, 7, 8, 30, 31])
 (.block 0 (.loop [1, 3, 7, 8, 30, 31] b136_1)))
 (.seq (.seq (.reg false r136_13 [1, 3, 7, 8, 10])
 (.block 2 (.loop [1, 3, 7, 8, 10] b136_2)))
 (.seq (.reg false r136_29 [6])
 (.ret)))))))
def m136 : MFunc := ⟨3, [.tmp 6], c136⟩
def r137_1 : List MOper := [o1 7 (.mov (.i 0))]
def r137_2 : List MOper := [o1 8 (.ld true 2 (.t 2)),
  o1 9 (.ld false 1 (.t 3)),
  o1 10 (.ld false 1 (.t 4)),
  o1 11 (.mov (.t 0)),
  o1 12 (.mov (.t 1)),
  o1 13 (.call 85 [(.t 8), (.t 9), (.t 10), (.t 11), (.t 12)]),
  o1 7 (.mov (.t 13))]
def c137 : MCode := .seq (.reg false r137_1 [0, 1, 2, 3, 4])
 (.seq (.reg false r137_2 [7])
 (.ret))
def m137 : MFunc := ⟨1, [.tmp 7], c137⟩
def r138_1 : List MOper := [o1 8 (.mov (.i 0)),
  o1 9 (.mov (.i 0))]
def r138_2 : List MOper := [o1 15 (.mov (.t 0)),
  o1 16 (.len (.t 15)),
  o1 17 (.mx [(.i 1), (.t 16)]),
  o1 18 (.mov (.t 1)),
  o1 19 (.len (.t 18)),
  o1 20 (.mx [(.i 1), (.t 19)]),
  o1 10 (.mov (.t 17)),
  o1 11 (.mov (.t 20))]
def q138_3 : List MOper := [o1 21 (.mov (.t 3)),
  o1 22 (.mov (.t 11)),
  o1 23 (.bin .quo (.t 21) (.t 22)),
  o1 24 (.mov (.t 3)),
  o1 25 (.mov (.t 11)),
  o1 26 (.bin .rem (.t 24) (.t 25)),
  o1 12 (.mov (.t 23)),
  o1 13 (.mov (.t 26)),
  o1 14 (.mov (.i 0))]
def r138_3 : List MOper := q138_3
def r138_4 : List MOper := [o1 27 (.mov (.t 0)),
  o1 28 (.len (.t 27)),
  o1 29 (.bin .eql (.t 28) (.i 0)),
  o1 30 (.mov (.t 29)),
  o2 31 30 false (.mov (.t 0)),
  o2 32 30 false (.mov (.t 12)),
  o2 33 30 false (.ixs 1 (.t 31) (.t 32)),
  o2 34 30 false (.ld false 1 (.t 33)),
  o2 35 30 false (.mov (.t 2)),
  o2 36 30 false (.call 48 [(.t 34), (.t 35)]),
  o1 37 (.pick (.t 30) (.c (.bool true)) (.t 36))]
def r138_5 : List MOper := [o1 38 (.mov (.t 12)),
  o1 39 (.mov (.t 10)),
  o1 40 (.bin .sub (.t 39) (.i 1)),
  o1 41 (.bin .eql (.t 38) (.t 40))]
def r138_6 : List MOper := [o1 14 (.mov (.i 1))]
def r138_7 : List MOper := [o1 42 (.mov (.t 12)),
  o1 43 (.bin .add (.t 42) (.i 1)),
  o1 44 (.mov (.t 10)),
  o1 45 (.bin .rem (.t 43) (.t 44)),
  o1 12 (.mov (.t 45))]
def r138_8 : List MOper := [o1 46 (.mov (.t 1)),
  o1 47 (.len (.t 46)),
  o1 48 (.bin .eql (.t 47) (.i 0)),
  o1 49 (.mov (.t 48)),
  o2 50 49 false (.mov (.t 1)),
  o2 51 49 false (.mov (.t 13)),
  o2 52 49 false (.ixs 1 (.t 50) (.t 51)),
  o2 53 49 false (.ld false 1 (.t 52)),
  o2 54 49 false (.mov (.t 2)),
  o2 55 49 false (.call 48 [(.t 53), (.t 54)]),
  o1 56 (.pick (.t 49) (.c (.bool true)) (.t 55))]
def r138_9 : List MOper := [o1 57 (.mov (.t 13)),
  o1 58 (.mov (.t 11)),
  o1 59 (.bin .sub (.t 58) (.i 1)),
  o1 60 (.bin .eql (.t 57) (.t 59))]
def r138_10 : List MOper := [o1 14 (.mov (.i 2))]
def r138_11 : List MOper := [o1 61 (.mov (.t 13)),
  o1 62 (.bin .add (.t 61) (.i 1)),
  o1 63 (.mov (.t 11)),
  o1 64 (.bin .rem (.t 62) (.t 63)),
  o1 13 (.mov (.t 64))]
def r138_12 : List MOper := [o1 65 (.mov (.t 12)),
  o1 66 (.mov (.t 11)),
  o1 67 (.bin .mul (.t 65) (.t 66)),
  o1 68 (.mov (.t 13)),
  o1 69 (.bin .add (.t 67) (.t 68)),
  o1 70 (.mov (.t 14)),
  o1 8 (.mov (.t 69)),
  o1 9 (.mov (.t 70))]
def c138 : MCode := .seq (.reg false r138_1 [0, 1, 2, 3])
 (.seq (.reg false r138_2 [0, 1, 2, 3, 10, 11])
 (.seq (.reg true r138_3 [0, 1, 2, 10, 11, 12, 13, 14])
 (.seq (.seq (.reg false r138_4 [1, 2, 10, 11, 12, 13, 14, 37])
 (.cond 37 (.seq (.seq (.reg false r138_5 [1, 2, 10, 11, 12, 13, 14, 41])
 (.cond 41 (.reg false r138_6 [1, 2, 10, 11, 12, 13, 14]) (.skip)))
 (.reg false r138_7 [1, 2, 11, 12, 13, 14])) (.skip)))
 (.seq (.seq (.reg false r138_8 [11, 12, 13, 14, 56])
 (.cond 56 (.seq (.seq (.reg false r138_9 [11, 12, 13, 14, 60])
 (.cond 60 (.reg false r138_10 [11, 12, 13, 14]) (.skip)))
 (.reg false r138_11 [11, 12, 13, 14])) (.skip)))
 (.seq (.reg false r138_12 [8, 9])
 (.ret))))))
def m138 : MFunc := ⟨3, [.tmp 8, .tmp 9], c138⟩
def r139_1 : List MOper := [o1 8 (.mov (.i 0))]
def r139_2 : List MOper := [o1 10 (.mov (.t 0)),
  o1 11 (.mov (.t 1)),
  o1 12 (.call 81 [(.t 10), (.t 11)]),
  o1 9 (.mov (.t 12))]
def r139_3 : List MOper := [o1 13 (.mov (.t 9)),
  o1 14 (.bin .eql (.t 13) (.i 0)),
  o1 15 (.mov (.t 14)),
  o2 16 15 false (.mov (.t 2)),
  o2 17 15 false (.bin .lss (.t 16) (.i 0)),
  o1 18 (.pick (.t 15) (.c (.bool true)) (.t 17)),
  o1 19 (.mov (.t 18)),
  o2 20 19 false (.mov (.t 2)),
  o2 21 19 false (.bin .gtr (.t 20) (.i 3000)),
  o1 22 (.pick (.t 19) (.c (.bool true)) (.t 21)),
  o1 23 (.mov (.t 22)),
  o2 24 23 false (.mov (.t 3)),
  o2 25 23 false (.bin .lss (.t 24) (.i 0)),
  o1 26 (.pick (.t 23) (.c (.bool true)) (.t 25)),
  o1 27 (.mov (.t 26)),
  o2 28 27 false (.mov (.t 3)),
  o2 29 27 false (.mov (.t 9)),
  o2 30 27 false (.bin .geq (.t 28) (.t 29)),
  o1 31 (.pick (.t 27) (.c (.bool true)) (.t 30))]
def r139_4 : List MOper := [o1 8 (.mov (.i (-1)))]
def r139_5 : List MOper := [o1 32 (.mov (.t 2)),
  o1 33 (.mov (.t 9)),
  o1 34 (.bin .mul (.t 32) (.t 33)),
  o1 35 (.mov (.t 3)),
  o1 36 (.bin .add (.t 34) (.t 35)),
  o1 8 (.mov (.t 36))]
def c139 : MCode := .seq (.reg false r139_1 [0, 1, 2, 3])
 (.seq (.reg false r139_2 [2, 3, 9])
 (.seq (.seq (.reg false r139_3 [2, 3, 9, 31])
 (.cond 31 (.seq (.reg false r139_4 [8])
 (.ret)) (.skip)))
 (.seq (.reg false r139_5 [8])
 (.ret))))
def m139 : MFunc := ⟨3, [.tmp 8], c139⟩
def r140_1 : List MOper := [o1 8 (.mov (.i 0))]
def r140_2 : List MOper := [o1 10 (.mov (.t 0)),
  o1 11 (.mov (.t 1)),
  o1 12 (.call 90 [(.t 10), (.t 11)]),
  o1 9 (.mov (.t 12))]
def r140_3 : List MOper := [o1 13 (.mov (.t 9)),
  o1 14 (.bin .eql (.t 13) (.i 0)),
  o1 15 (.mov (.t 14)),
  o2 16 15 false (.mov (.t 2)),
  o2 17 15 false (.bin .lss (.t 16) (.i 0)),
  o1 18 (.pick (.t 15) (.c (.bool true)) (.t 17)),
  o1 19 (.mov (.t 18)),
  o2 20 19 false (.mov (.t 2)),
  o2 21 19 false (.bin .gtr (.t 20) (.i 3000)),
  o1 22 (.pick (.t 19) (.c (.bool true)) (.t 21)),
  o1 23 (.mov (.t 22)),
  o2 24 23 false (.mov (.t 3)),
  o2 25 23 false (.bin .lss (.t 24) (.i 0)),
  o1 26 (.pick (.t 23) (.c (.bool true)) (.t 25)),
  o1 27 (.mov (.t 26)),
  o2 28 27 false (.mov (.t 3)),
  o2 29 27 false (.mov (.t 9)),
  o2 30 27 false (.bin .geq (.t 28) (.t 29)),
  o1 31 (.pick (.t 27) (.c (.bool true)) (.t 30))]
def r140_4 : List MOper := [o1 8 (.mov (.i (-1)))]
def r140_5 : List MOper := [o1 32 (.mov (.t 2)),
  o1 33 (.mov (.t 9)),
  o1 34 (.bin .mul (.t 32) (.t 33)),
  o1 35 (.mov (.t 3)),
  o1 36 (.bin .add (.t 34) (.t 35)),
  o1 8 (.mov (.t 36))]
def c140 : MCode := .seq (.reg false r140_1 [0, 1, 2, 3])
 (.seq (.reg false r140_2 [2, 3, 9])
 (.seq (.seq (.reg false r140_3 [2, 3, 9, 31])
 (.cond 31 (.seq (.reg false r140_4 [8])
 (.ret)) (.skip)))
 (.seq (.reg false r140_5 [8])
 (.ret))))
def m140 : MFunc := ⟨3, [.tmp 8], c140⟩
def r141_1 : List MOper := [o1 6 (.mov (.i 0))]
def r141_2 : List MOper := [o1 7 (.mov (.t 0)),
  o1 8 (.mov (.t 1)),
  o1 9 (.mov (.t 2)),
  o1 10 (.call 168 [(.t 7), (.t 8), (.t 9)])]
def r141_3 : List MOper := [o1 11 (.mov (.t 1)),
  o1 12 (.bin .add (.t 11) (.i 1)),
  o1 13 (.mov (.t 0)),
  o1 14 (.len (.t 13)),
  o1 15 (.mx [(.i 1), (.t 14)]),
  o1 16 (.bin .rem (.t 12) (.t 15)),
  o1 6 (.mov (.t 16))]
def r141_4 : List MOper := [o1 17 (.mov (.t 1)),
  o1 6 (.mov (.t 17))]
def c141 : MCode := .seq (.reg false r141_1 [0, 1, 2])
 (.seq (.seq (.reg false r141_2 [0, 1, 10])
 (.cond 10 (.seq (.reg false r141_3 [6])
 (.ret)) (.skip)))
 (.seq (.reg false r141_4 [6])
 (.ret)))
def m141 : MFunc := ⟨3, [.tmp 6], c141⟩
def r142_1 : List MOper := [o1 2 (.mov (.c (.fz .isnil 1 [])))]
def r142_2 : List MOper := [o1 5 (.mov (.t 0)),
  o1 6 (.len (.t 5)),
  o1 7 (.mksl 1 (.bool false) (.t 6)),
  o1 3 (.mov (.t 7))]
def r142_3 : List MOper := [o1 8 (.mov (.t 3)),
  o1 9 (.len (.t 8)),
  o1 10 (.mov (.i 0))]
def r142_4 : List MOper := [o1 11 (.bin .lss (.t 10) (.t 9))]
def r142_5 : List MOper := [o1 12 (.mov (.t 10)),
  o1 4 (.mov (.t 12))]
def r142_6 : List MOper := [o1 13 (.mov (.t 3)),
  o1 14 (.mov (.t 4)),
  o1 15 (.ixs 1 (.t 13) (.t 14)),
  n1 (.st 1 (.t 15) (.c (.bool true)))]
def r142_7 : List MOper := [o1 16 (.bin .add (.t 10) (.i 1)),
  o1 10 (.mov (.t 16))]
def b142_1 : MCode := .seq (.reg false r142_4 [3, 9, 10, 11])
 (.seq (.cond 11 (.skip) (.exit 0))
 (.seq (.block 1 (.seq (.reg false r142_5 [3, 4, 9, 10])
 (.reg false r142_6 [3, 9, 10])))
 (.reg false r142_7 [3, 9, 10])))
def r142_8 : List MOper := [o1 17 (.mov (.t 3)),
  o1 2 (.mov (.t 17))]
def c142 : MCode := .seq (.reg false r142_1 [0])
 (.seq (.reg false r142_2 [3])
 (.seq (.seq (.reg false r142_3 [3, 9, 10])
 (.block 0 (.loop [3, 9, 10] b142_1)))
 (.seq (.reg false r142_8 [2])
 (.ret))))
def m142 : MFunc := ⟨3, [.tmp 2], c142⟩
def r143_1 : List MOper := [o1 8 (.mov (.i 0)),
  o1 9 (.mov (.i 0))]
def r143_2 : List MOper := [o1 15 (.mov (.t 0)),
  o1 16 (.len (.t 15)),
  o1 17 (.mx [(.i 1), (.t 16)]),
  o1 18 (.mov (.t 1)),
  o1 19 (.len (.t 18)),
  o1 20 (.mx [(.i 1), (.t 19)]),
  o1 10 (.mov (.t 17)),
  o1 11 (.mov (.t 20))]
def q143_3 : List MOper := [o1 21 (.mov (.t 3)),
  o1 22 (.mov (.t 11)),
  o1 23 (.bin .quo (.t 21) (.t 22)),
  o1 24 (.mov (.t 3)),
  o1 25 (.mov (.t 11)),
  o1 26 (.bin .rem (.t 24) (.t 25)),
  o1 12 (.mov (.t 23)),
  o1 13 (.mov (.t 26)),
  o1 14 (.mov (.i 0))]
def r143_3 : List MOper := q143_3
def r143_4 : List MOper := [o1 27 (.mov (.t 0)),
  o1 28 (.mov (.t 12)),
  o1 29 (.mov (.t 2)),
  o1 30 (.call 169 [(.t 27), (.t 28), (.t 29)])]
def r143_5 : List MOper := [o1 31 (.mov (.t 12)),
  o1 32 (.mov (.t 10)),
  o1 33 (.bin .sub (.t 32) (.i 1)),
  o1 34 (.bin .eql (.t 31) (.t 33))]
def r143_6 : List MOper := [o1 14 (.mov (.i 1))]
def r143_7 : List MOper := [o1 35 (.mov (.t 12)),
  o1 36 (.bin .add (.t 35) (.i 1)),
  o1 37 (.mov (.t 10)),
  o1 38 (.bin .rem (.t 36) (.t 37)),
  o1 12 (.mov (.t 38))]
def r143_8 : List MOper := [o1 39 (.mov (.t 1)),
  o1 40 (.mov (.t 13)),
  o1 41 (.mov (.t 2)),
  o1 42 (.call 169 [(.t 39), (.t 40), (.t 41)])]
def r143_9 : List MOper := [o1 43 (.mov (.t 13)),
  o1 44 (.mov (.t 11)),
  o1 45 (.bin .sub (.t 44) (.i 1)),
  o1 46 (.bin .eql (.t 43) (.t 45))]
def r143_10 : List MOper := [o1 14 (.mov (.i 2))]
def r143_11 : List MOper := [o1 47 (.mov (.t 13)),
  o1 48 (.bin .add (.t 47) (.i 1)),
  o1 49 (.mov (.t 11)),
  o1 50 (.bin .rem (.t 48) (.t 49)),
  o1 13 (.mov (.t 50))]
def r143_12 : List MOper := [o1 51 (.mov (.t 12)),
  o1 52 (.mov (.t 11)),
  o1 53 (.bin .mul (.t 51) (.t 52)),
  o1 54 (.mov (.t 13)),
  o1 55 (.bin .add (.t 53) (.t 54)),
  o1 56 (.mov (.t 14)),
  o1 8 (.mov (.t 55)),
  o1 9 (.mov (.t 56))]
def c143 : MCode := .seq (.reg false r143_1 [0, 1, 2, 3])
 (.seq (.reg false r143_2 [0, 1, 2, 3, 10, 11])
 (.seq (.reg true r143_3 [0, 1, 2, 10, 11, 12, 13, 14])
 (.seq (.seq (.reg false r143_4 [1, 2, 10, 11, 12, 13, 14, 30])
 (.cond 30 (.seq (.seq (.reg false r143_5 [1, 2, 10, 11, 12, 13, 14, 34])
 (.cond 34 (.reg false r143_6 [1, 2, 10, 11, 12, 13, 14]) (.skip)))
 (.reg false r143_7 [1, 2, 11, 12, 13, 14])) (.skip)))
 (.seq (.seq (.reg false r143_8 [11, 12, 13, 14, 42])
 (.cond 42 (.seq (.seq (.reg false r143_9 [11, 12, 13, 14, 46])
 (.cond 46 (.reg false r143_10 [11, 12, 13, 14]) (.skip)))
 (.reg false r143_11 [11, 12, 13, 14])) (.skip)))
 (.seq (.reg false r143_12 [8, 9])
 (.ret))))))
def m143 : MFunc := ⟨3, [.tmp 8, .tmp 9], c143⟩
def r144_1 : List MOper := [o1 9 (.mov (.t 0)),
  o1 10 (.nilck (.t 9)),
  o1 11 (.fld 0 (.t 10)),
  o1 12 (.ld true 2 (.t 11)),
  o1 13 (.call 170 [(.t 12)]),
  o1 2 (.mov (.t 13))]
def r144_2 : List MOper := [o1 14 (.mov (.t 0)),
  o1 15 (.nilck (.t 14)),
  o1 16 (.fld 6 (.t 15)),
  o1 17 (.ld false 1 (.t 16)),
  o1 18 (.len (.t 17)),
  o1 19 (.mov (.i 0))]
def r144_3 : List MOper := [o1 20 (.bin .lss (.t 19) (.t 18))]
def r144_4 : List MOper := [o1 21 (.mov (.t 19)),
  o1 3 (.mov (.t 21))]
def r144_5 : List MOper := [o1 22 (.mov (.t 0)),
  o1 23 (.mov (.t 3)),
  o1 24 (.call 171 [(.t 22), (.t 23)])]
def r144_6 : List MOper := [o1 25 (.bin .add (.t 19) (.i 1)),
  o1 19 (.mov (.t 25))]
def b144_1 : MCode := .seq (.reg false r144_3 [0, 2, 18, 19, 20])
 (.seq (.cond 20 (.skip) (.exit 0))
 (.seq (.block 1 (.seq (.reg false r144_4 [0, 2, 3, 18, 19])
 (.reg false r144_5 [0, 2, 18, 19])))
 (.reg false r144_6 [0, 2, 18, 19])))
def r144_7 : List MOper := [o1 26 (.mov (.t 0)),
  o1 27 (.nilck (.t 26)),
  o1 28 (.fld 7 (.t 27)),
  o1 29 (.ld false 1 (.t 28)),
  o1 30 (.len (.t 29)),
  o1 31 (.bin .gtr (.t 30) (.i 0))]
def r144_8 : List MOper := [o1 33 (.mov (.t 0)),
  o1 34 (.nilck (.t 33)),
  o1 35 (.fld 7 (.t 34)),
  o1 36 (.mkif 153 (.t 35)),
  o1 37 (.call 172 [(.t 36)]),
  o1 38 (.tas 3 (.t 37)),
  o1 32 (.mov (.t 38)),
  o1 39 (.ext (.t 32) 0),
  o1 40 (.ext (.t 32) 1),
  o1 4 (.mov (.t 39)),
  o1 5 (.mov (.t 40))]
def r144_9 : List MOper := [o1 41 (.mov (.t 0)),
  o1 42 (.nilck (.t 41)),
  o1 43 (.fld 8 (.t 42)),
  o1 44 (.ld false 1 (.t 43)),
  o1 45 (.mov (.t 4)),
  o1 46 (.ixs 1 (.t 44) (.t 45)),
  n1 (.st 1 (.t 46) (.c (.bool false)))]
def r144_10 : List MOper := [o1 47 (.mov (.t 0)),
  o1 48 (.mov (.t 4)),
  o1 49 (.call 173 [(.t 47), (.t 48)]),
  o1 6 (.alloc [.int .i64 0, .int .i64 0, .int .i64 0, .bool false] []),
  n1 (.st 4 (.t 6) (.t 49))]
def q144_11 : List MOper := [o1 50 (.mov (.t 0)),
  o1 51 (.nilck (.t 50)),
  o1 52 (.fld 6 (.t 51)),
  ox (some 53) none .R false (.ld false 1 (.t 52)),
  o1 54 (.mov (.t 4)),
  o1 55 (.ixs 4 (.t 53) (.t 54)),
  ox (some 56) none .R false (.ld true 4 (.t 55)),
  ox (some 57) none .R false (.ld true 4 (.t 6)),
  ox (some 58) none .R false (.call 174 [(.t 56), (.t 57)]),
  o1 59 (.bin .geq (.t 58) (.i 0))]
def r144_11 : List MOper := q144_11
def q144_12 : List MOper := [o1 60 (.mov (.t 0)),
  o1 61 (.nilck (.t 60)),
  o1 62 (.fld 6 (.t 61)),
  ox (some 63) none .R false (.ld false 1 (.t 62)),
  o1 64 (.mov (.t 4)),
  ox (some 65) none .R false (.ld true 4 (.t 6)),
  o1 66 (.ixs 4 (.t 63) (.t 64)),
  ox none none .L false (.st 4 (.t 66) (.t 65))]
def r144_12 : List MOper := q144_12
def r144_13 : List MOper := [o1 67 (.mov (.t 2)),
  o1 68 (.mov (.t 4)),
  o1 69 (.ixs 1 (.t 67) (.t 68)),
  o1 70 (.ld false 1 (.t 69)),
  o1 71 (.len (.t 70)),
  o1 72 (.mov (.i 0))]
def r144_14 : List MOper := [o1 73 (.bin .lss (.t 72) (.t 71))]
def r144_15 : List MOper := [o1 74 (.ixs 1 (.t 70) (.t 72)),
  o1 75 (.ld false 1 (.t 74)),
  o1 8 (.mov (.t 75))]
def r144_16 : List MOper := [o1 76 (.mov (.t 0)),
  o1 77 (.mov (.t 8)),
  o1 78 (.call 171 [(.t 76), (.t 77)])]
def r144_17 : List MOper := [o1 79 (.bin .add (.t 72) (.i 1)),
  o1 72 (.mov (.t 79))]
def b144_3 : MCode := .seq (.reg false r144_14 [0, 2, 70, 71, 72, 73])
 (.seq (.cond 73 (.skip) (.exit 4))
 (.seq (.block 5 (.seq (.reg false r144_15 [0, 2, 8, 70, 71, 72])
 (.reg false r144_16 [0, 2, 70, 71, 72])))
 (.reg false r144_17 [0, 2, 70, 71, 72])))
def b144_2 : MCode := .seq (.seq (.reg false r144_7 [0, 2, 31])
 (.cond 31 (.skip) (.exit 2)))
 (.block 3 (.seq (.reg false r144_8 [0, 2, 4])
 (.seq (.reg false r144_9 [0, 2, 4])
 (.seq (.reg false r144_10 [0, 2, 4, 6])
 (.seq (.seq (.reg true r144_11 [0, 2, 4, 6, 59])
 (.cond 59 (.exit 3) (.skip)))
 (.seq (.reg true r144_12 [0, 2, 4])
 (.seq (.reg false r144_13 [0, 2, 70, 71, 72])
 (.block 4 (.loop [0, 2, 70, 71, 72] b144_3)))))))))
def c144 : MCode := .seq (.reg false r144_1 [0, 2])
 (.seq (.seq (.reg false r144_2 [0, 2, 18, 19])
 (.block 0 (.loop [0, 2, 18, 19] b144_1)))
 (.block 2 (.loop [0, 2] b144_2)))
def m144 : MFunc := ⟨0, [], c144⟩
end Go.Proofs.Ytlilfiekkaolkaa.Am
