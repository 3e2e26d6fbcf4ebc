/- The functions as code of the abstract machine (printed by gen.py), part 6. -/
import Derived.Test.YtlilfiekkaolkaaAmX
set_option linter.unusedVariables false
namespace Go.Proofs.Ytlilfiekkaolkaa.Am
open Go
def r183_1 : List MOper := [o1 4 (.mov (.t 0)),
  o1 5 (.nilck (.t 4)),
  o1 6 (.fld 5 (.t 5)),
  o1 7 (.ld false 1 (.t 6)),
  o1 8 (.bin .add (.t 7) (.i 1)),
  o1 9 (.nilck (.t 4)),
  o1 10 (.fld 5 (.t 9)),
  n1 (.st 1 (.t 10) (.t 8))]
def q183_2 : List MOper := [o1 11 (.mov (.t 0)),
  o1 12 (.nilck (.t 11)),
  o1 13 (.fld 2 (.t 12)),
  ox (some 14) none .R false (.ld false 1 (.t 13)),
  o1 15 (.mov (.t 1)),
  o1 16 (.mov (.t 0)),
  o1 17 (.nilck (.t 16)),
  o1 18 (.fld 3 (.t 17)),
  ox (some 19) none .R false (.ld false 1 (.t 18)),
  o1 20 (.mov (.t 1)),
  o1 21 (.mov (.t 0)),
  o1 22 (.nilck (.t 21)),
  o1 23 (.fld 4 (.t 22)),
  ox (some 24) none .R false (.ld false 1 (.t 23)),
  o1 25 (.mov (.t 1)),
  o1 26 (.mov (.t 0)),
  o1 27 (.nilck (.t 26)),
  o1 28 (.fld 5 (.t 27)),
  ox (some 29) none .R false (.ld false 1 (.t 28)),
  o1 30 (.mov (.t 0)),
  o1 31 (.nilck (.t 30)),
  o1 32 (.fld 5 (.t 31)),
  ox (some 33) none .R false (.ld false 1 (.t 32)),
  o1 34 (.ixs 1 (.t 14) (.t 15)),
  ox none none .L false (.st 1 (.t 34) (.t 29)),
  o1 35 (.ixs 1 (.t 19) (.t 20)),
  ox none none .L false (.st 1 (.t 35) (.t 33)),
  o1 36 (.ixs 1 (.t 24) (.t 25)),
  ox none none .L false (.st 1 (.t 36) (.c (.bool true)))]
def r183_2 : List MOper := q183_2
def r183_3 : List MOper := [o1 37 (.mov (.t 0)),
  o1 38 (.mov (.t 0)),
  o1 39 (.nilck (.t 38)),
  o1 40 (.fld 6 (.t 39)),
  o1 41 (.ld false 1 (.t 40)),
  o1 42 (.mov (.t 1)),
  o1 43 (.bsl false 1 [(.t 42)]),
  o1 44 (.app 1 (.t 41) (.t 43)),
  o1 45 (.nilck (.t 37)),
  o1 46 (.fld 6 (.t 45)),
  n1 (.st 1 (.t 46) (.t 44))]
def r183_4 : List MOper := [o1 47 (.mov (.t 0)),
  o1 48 (.mov (.t 0)),
  o1 49 (.nilck (.t 48)),
  o1 50 (.fld 7 (.t 49)),
  o1 51 (.ld false 1 (.t 50)),
  o1 52 (.mov (.t 1)),
  o1 53 (.build [.int .i64 0, .int .i64 0] [] [(0, 1, (.t 52))]),
  o1 54 (.bsl false 2 [(.t 53)]),
  o1 55 (.app 2 (.t 51) (.t 54)),
  o1 56 (.nilck (.t 47)),
  o1 57 (.fld 7 (.t 56)),
  n1 (.st 1 (.t 57) (.t 55))]
def c183 : MCode := .seq (.reg false r183_1 [0, 1])
 (.seq (.reg true r183_2 [0, 1])
 (.seq (.reg false r183_3 [0, 1])
 (.reg false r183_4 [])))
def m183 : MFunc := ⟨0, [], c183⟩
def r184_1 : List MOper := [o1 8 (.mov (.c (.fz .isnil 1 [])))]
def r184_2 : List MOper := [o1 13 (.mov (.t 0)),
  o1 14 (.nilck (.t 13)),
  o1 15 (.fld 0 (.t 14)),
  o1 16 (.ld true 2 (.t 15)),
  o1 17 (.mov (.t 2)),
  o1 18 (.call 200 [(.t 16), (.t 17)]),
  o1 9 (.alloc [.fz .isnil 1 [], .fz .isnil 1 []] []),
  n1 (.st 2 (.t 9) (.t 18))]
def q184_3 : List MOper := [o1 19 (.mov (.t 0)),
  o1 20 (.nilck (.t 19)),
  o1 21 (.fld 0 (.t 20)),
  ox (some 22) none .R false (.ld true 2 (.t 21)),
  ox (some 23) none .R false (.ld true 2 (.t 9)),
  o1 24 (.mov (.t 1)),
  o1 25 (.mov (.t 3)),
  ox (some 26) none .R false (.call 95 [(.t 23), (.t 24), (.t 25)]),
  o1 27 (.mov (.t 2)),
  ox (some 28) none .R false (.call 40 [(.t 22), (.t 26), (.t 27)]),
  o1 10 (.mov (.t 28))]
def r184_3 : List MOper := q184_3
def r184_4 : List MOper := [o1 29 (.ld true 2 (.t 9)),
  o1 30 (.mov (.t 1)),
  o1 31 (.mov (.t 3)),
  o1 32 (.call 130 [(.t 29), (.t 30), (.t 31)]),
  o1 33 (.len (.t 32)),
  o1 34 (.mov (.i 0))]
def r184_5 : List MOper := [o1 35 (.bin .lss (.t 34) (.t 33))]
def r184_6 : List MOper := [o1 36 (.mov (.t 34)),
  o1 37 (.ixs 1 (.t 32) (.t 34)),
  o1 38 (.ld false 1 (.t 37)),
  o1 11 (.mov (.t 36)),
  o1 12 (.mov (.t 38))]
def r184_7 : List MOper := [o1 39 (.mov (.t 12)),
  o1 40 (.bin .geq (.t 39) (.i 0)),
  o1 41 (.mov (.t 40)),
  o2 42 41 true (.mov (.t 2)),
  o2 43 41 true (.mov (.t 11)),
  o2 44 41 true (.ixs 1 (.t 42) (.t 43)),
  o2 45 41 true (.ld false 1 (.t 44)),
  o1 46 (.pick (.t 41) (.t 45) (.c (.bool false)))]
def r184_8 : List MOper := [o1 47 (.mov (.t 0)),
  o1 48 (.nilck (.t 47)),
  o1 49 (.fld 4 (.t 48)),
  o1 50 (.ld false 1 (.t 49)),
  o1 51 (.mov (.t 11)),
  o1 52 (.mov (.t 12)),
  o1 53 (.ixs 1 (.t 50) (.t 51)),
  n1 (.st 1 (.t 53) (.t 52))]
def r184_9 : List MOper := [o1 54 (.bin .add (.t 34) (.i 1)),
  o1 34 (.mov (.t 54))]
def b184_1 : MCode := .seq (.reg false r184_5 [0, 2, 10, 32, 33, 34, 35])
 (.seq (.cond 35 (.skip) (.exit 0))
 (.seq (.block 1 (.seq (.reg false r184_6 [0, 2, 10, 11, 12, 32, 33, 34])
 (.seq (.reg false r184_7 [0, 2, 10, 11, 12, 32, 33, 34, 46])
 (.cond 46 (.reg false r184_8 [0, 2, 10, 32, 33, 34]) (.skip)))))
 (.reg false r184_9 [0, 2, 10, 32, 33, 34])))
def r184_10 : List MOper := [o1 55 (.mov (.t 10)),
  o1 8 (.mov (.t 55))]
def c184 : MCode := .seq (.reg false r184_1 [0, 1, 2, 3])
 (.seq (.reg false r184_2 [0, 1, 2, 3, 9])
 (.seq (.reg true r184_3 [0, 1, 2, 3, 9, 10])
 (.seq (.seq (.reg false r184_4 [0, 2, 10, 32, 33, 34])
 (.block 0 (.loop [0, 2, 10, 32, 33, 34] b184_1)))
 (.seq (.reg false r184_10 [8])
 (.ret)))))
def m184 : MFunc := ⟨0, [.tmp 8], c184⟩
def r185_1 : List MOper := [o1 6 (.mov (.c (.fz .isnil 1 [])))]
def r185_2 : List MOper := [o1 10 (.mov (.t 2)),
  o1 11 (.len (.t 10)),
  o1 12 (.mksl 1 (.bool false) (.t 11)),
  o1 7 (.mov (.t 12))]
def r185_3 : List MOper := [o1 13 (.mov (.t 2)),
  o1 14 (.len (.t 13)),
  o1 15 (.mov (.i 0))]
def r185_4 : List MOper := [o1 16 (.bin .lss (.t 15) (.t 14))]
def r185_5 : List MOper := [o1 17 (.mov (.t 15)),
  o1 18 (.ixs 1 (.t 13) (.t 15)),
  o1 19 (.ld false 1 (.t 18)),
  o1 8 (.mov (.t 17)),
  o1 9 (.mov (.t 19))]
def r185_6 : List MOper := [o1 20 (.mov (.t 7)),
  o1 21 (.mov (.t 8)),
  o1 22 (.mov (.t 9)),
  o1 23 (.mov (.t 22)),
  o2 24 23 true (.mov (.t 0)),
  o2 25 23 true (.nilck (.t 24)),
  o2 26 23 true (.fld 3 (.t 25)),
  o2 27 23 true (.ld false 1 (.t 26)),
  o2 28 23 true (.mov (.t 8)),
  o2 29 23 true (.ixs 1 (.t 27) (.t 28)),
  o2 30 23 true (.ld false 1 (.t 29)),
  o2 31 23 true (.mov (.t 1)),
  o2 32 23 true (.bin .eql (.t 30) (.t 31)),
  o1 33 (.pick (.t 23) (.t 32) (.c (.bool false))),
  o1 34 (.ixs 1 (.t 20) (.t 21)),
  n1 (.st 1 (.t 34) (.t 33))]
def r185_7 : List MOper := [o1 35 (.bin .add (.t 15) (.i 1)),
  o1 15 (.mov (.t 35))]
def b185_1 : MCode := .seq (.reg false r185_4 [0, 1, 7, 13, 14, 15, 16])
 (.seq (.cond 16 (.skip) (.exit 0))
 (.seq (.block 1 (.seq (.reg false r185_5 [0, 1, 7, 8, 9, 13, 14, 15])
 (.reg false r185_6 [0, 1, 7, 13, 14, 15])))
 (.reg false r185_7 [0, 1, 7, 13, 14, 15])))
def r185_8 : List MOper := [o1 36 (.mov (.t 7)),
  o1 6 (.mov (.t 36))]
def c185 : MCode := .seq (.reg false r185_1 [0, 1, 2])
 (.seq (.reg false r185_2 [0, 1, 2, 7])
 (.seq (.seq (.reg false r185_3 [0, 1, 7, 13, 14, 15])
 (.block 0 (.loop [0, 1, 7, 13, 14, 15] b185_1)))
 (.seq (.reg false r185_8 [6])
 (.ret))))
def m185 : MFunc := ⟨1, [.tmp 6], c185⟩
def r186_1 : List MOper := [o1 12 (.mov (.t 3)),
  o1 13 (.len (.t 12)),
  o1 14 (.mov (.i 0))]
def r186_2 : List MOper := [o1 15 (.bin .lss (.t 14) (.t 13))]
def r186_3 : List MOper := [o1 16 (.mov (.t 14)),
  o1 17 (.ixs 1 (.t 12) (.t 14)),
  o1 18 (.ld false 1 (.t 17)),
  o1 8 (.mov (.t 16)),
  o1 9 (.mov (.t 18))]
def r186_4 : List MOper := [o1 19 (.mov (.t 9)),
  o1 20 (.not (.t 19)),
  o1 21 (.mov (.t 20)),
  o2 22 21 false (.mov (.t 0)),
  o2 23 21 false (.nilck (.t 22)),
  o2 24 21 false (.fld 0 (.t 23)),
  o2 25 21 false (.fld 0 (.t 24)),
  o2 26 21 false (.ld false 1 (.t 25)),
  o2 27 21 false (.mov (.t 8)),
  o2 28 21 false (.ixs 1 (.t 26) (.t 27)),
  o2 29 21 false (.ld false 1 (.t 28)),
  o2 30 21 false (.mov (.t 1)),
  o2 31 21 false (.bin .neq (.t 29) (.t 30)),
  o1 32 (.pick (.t 21) (.c (.bool true)) (.t 31))]
def r186_5 : List MOper := [o1 33 (.mov (.t 0)),
  o1 34 (.nilck (.t 33)),
  o1 35 (.fld 0 (.t 34)),
  o1 36 (.fld 1 (.t 35)),
  o1 37 (.ld false 1 (.t 36)),
  o1 38 (.mov (.t 8)),
  o1 39 (.ixs 1 (.t 37) (.t 38)),
  o1 40 (.ld false 1 (.t 39)),
  o1 41 (.len (.t 40)),
  o1 42 (.mov (.i 0))]
def r186_6 : List MOper := [o1 43 (.bin .lss (.t 42) (.t 41))]
def r186_7 : List MOper := [o1 44 (.ixs 1 (.t 40) (.t 42)),
  o1 45 (.ld false 1 (.t 44)),
  o1 11 (.mov (.t 45))]
def r186_8 : List MOper := [o1 46 (.mov (.t 2)),
  o1 47 (.mov (.t 11)),
  o1 48 (.ixs 1 (.t 46) (.t 47)),
  o1 49 (.ld false 1 (.t 48))]
def r186_9 : List MOper := [o1 50 (.mov (.t 0)),
  o1 51 (.nilck (.t 50)),
  o1 52 (.fld 4 (.t 51)),
  o1 53 (.ld false 1 (.t 52)),
  o1 54 (.mov (.t 8)),
  o1 55 (.mov (.t 11)),
  o1 56 (.ixs 1 (.t 53) (.t 54)),
  n1 (.st 1 (.t 56) (.t 55))]
def r186_10 : List MOper := [o1 57 (.bin .add (.t 42) (.i 1)),
  o1 42 (.mov (.t 57))]
def b186_2 : MCode := .seq (.reg false r186_6 [0, 1, 2, 8, 12, 13, 14, 40, 41, 42, 43])
 (.seq (.cond 43 (.skip) (.exit 2))
 (.seq (.block 3 (.seq (.reg false r186_7 [0, 1, 2, 8, 11, 12, 13, 14, 40, 41, 42])
 (.seq (.reg false r186_8 [0, 1, 2, 8, 11, 12, 13, 14, 40, 41, 42, 49])
 (.cond 49 (.seq (.reg false r186_9 [0, 1, 2, 12, 13, 14])
 (.exit 2)) (.skip)))))
 (.reg false r186_10 [0, 1, 2, 8, 12, 13, 14, 40, 41, 42])))
def r186_11 : List MOper := [o1 58 (.bin .add (.t 14) (.i 1)),
  o1 14 (.mov (.t 58))]
def b186_1 : MCode := .seq (.reg false r186_2 [0, 1, 2, 12, 13, 14, 15])
 (.seq (.cond 15 (.skip) (.exit 0))
 (.seq (.block 1 (.seq (.reg false r186_3 [0, 1, 2, 8, 9, 12, 13, 14])
 (.seq (.seq (.reg false r186_4 [0, 1, 2, 8, 12, 13, 14, 32])
 (.cond 32 (.exit 1) (.skip)))
 (.seq (.reg false r186_5 [0, 1, 2, 8, 12, 13, 14, 40, 41, 42])
 (.block 2 (.loop [0, 1, 2, 8, 12, 13, 14, 40, 41, 42] b186_2))))))
 (.reg false r186_11 [0, 1, 2, 12, 13, 14])))
def c186 : MCode := .seq (.reg false r186_1 [0, 1, 2, 12, 13, 14])
 (.block 0 (.loop [0, 1, 2, 12, 13, 14] b186_1))
def m186 : MFunc := ⟨0, [], c186⟩
def r187_1 : List MOper := [o1 2 (.box (.t 0)),
  o1 4 (.mov (.i 0))]
def r187_2 : List MOper := [o1 5 (.mov (.i 0))]
def r187_3 : List MOper := [o1 7 (.fld 0 (.t 2)),
  o1 8 (.ld false 1 (.t 7)),
  o1 9 (.len (.t 8)),
  o1 10 (.mov (.i 0))]
def r187_4 : List MOper := [o1 11 (.bin .lss (.t 10) (.t 9))]
def r187_5 : List MOper := [o1 12 (.mov (.t 10)),
  o1 6 (.mov (.t 12))]
def r187_6 : List MOper := [o1 13 (.mov (.t 1)),
  o1 14 (.mov (.t 6)),
  o1 15 (.call 99 [(.t 13), (.t 14)])]
def r187_7 : List MOper := [o1 16 (.mov (.t 5)),
  o1 17 (.bin .add (.t 16) (.i 1)),
  o1 5 (.mov (.t 17))]
def r187_8 : List MOper := [o1 18 (.bin .add (.t 10) (.i 1)),
  o1 10 (.mov (.t 18))]
def b187_1 : MCode := .seq (.reg false r187_4 [1, 5, 9, 10, 11])
 (.seq (.cond 11 (.skip) (.exit 0))
 (.seq (.block 1 (.seq (.reg false r187_5 [1, 5, 6, 9, 10])
 (.seq (.reg false r187_6 [1, 5, 9, 10, 15])
 (.cond 15 (.reg false r187_7 [1, 5, 9, 10]) (.skip)))))
 (.reg false r187_8 [1, 5, 9, 10])))
def r187_9 : List MOper := [o1 19 (.mov (.t 5)),
  o1 4 (.mov (.t 19))]
def c187 : MCode := .seq (.reg false r187_1 [1, 2])
 (.seq (.reg false r187_2 [1, 2, 5])
 (.seq (.seq (.reg false r187_3 [1, 5, 9, 10])
 (.block 0 (.loop [1, 5, 9, 10] b187_1)))
 (.seq (.reg false r187_9 [4])
 (.ret))))
def m187 : MFunc := ⟨3, [.tmp 4], c187⟩
def r188_1 : List MOper := [o1 4 (.mov (.t 0)),
  o1 5 (.mov (.t 1)),
  o1 6 (.inv [(153, 226, none), (166, 231, none)] (.t 4) [(.t 5)])]
def r188_2 : List MOper := [o1 7 (.mov (.t 0)),
  o1 8 (.mov (.t 0)),
  o1 9 (.inv [(153, 222, some (false, 1)), (166, 227, some (false, 1))] (.t 8) []),
  o1 10 (.bin .sub (.t 9) (.i 1)),
  o1 11 (.call 201 [(.t 7), (.t 10)])]
def c188 : MCode := .seq (.reg false r188_1 [0])
 (.reg false r188_2 [])
def m188 : MFunc := ⟨0, [], c188⟩
def r189_1 : List MOper := [o1 6 (.mov (.c (.bool false)))]
def r189_2 : List MOper := [o1 11 (.mov (.t 1)),
  o1 7 (.mov (.t 11))]
def r189_3 : List MOper := [o1 12 (.mov (.t 7)),
  o1 13 (.bin .mul (.i 2) (.t 12)),
  o1 14 (.bin .add (.t 13) (.i 1)),
  o1 8 (.mov (.t 14))]
def r189_4 : List MOper := [o1 15 (.mov (.t 8)),
  o1 16 (.mov (.t 2)),
  o1 17 (.bin .geq (.t 15) (.t 16)),
  o1 18 (.mov (.t 17)),
  o2 19 18 false (.mov (.t 8)),
  o2 20 18 false (.bin .lss (.t 19) (.i 0)),
  o1 21 (.pick (.t 18) (.c (.bool true)) (.t 20))]
def r189_5 : List MOper := [o1 22 (.mov (.t 8)),
  o1 9 (.mov (.t 22))]
def r189_6 : List MOper := [o1 23 (.mov (.t 8)),
  o1 24 (.bin .add (.t 23) (.i 1)),
  o1 10 (.mov (.t 24))]
def r189_7 : List MOper := [o1 25 (.mov (.t 10)),
  o1 26 (.mov (.t 2)),
  o1 27 (.bin .lss (.t 25) (.t 26)),
  o1 28 (.mov (.t 27)),
  o2 29 28 true (.mov (.t 0)),
  o2 30 28 true (.mov (.t 10)),
  o2 31 28 true (.mov (.t 8)),
  o2 32 28 true (.inv [(153, 223, some (false, 1)), (166, 228, some (false, 1))] (.t 29) [(.t 30), (.t 31)]),
  o1 33 (.pick (.t 28) (.t 32) (.c (.bool false)))]
def r189_8 : List MOper := [o1 34 (.mov (.t 10)),
  o1 9 (.mov (.t 34))]
def r189_9 : List MOper := [o1 35 (.mov (.t 0)),
  o1 36 (.mov (.t 9)),
  o1 37 (.mov (.t 7)),
  o1 38 (.inv [(153, 223, some (false, 1)), (166, 228, some (false, 1))] (.t 35) [(.t 36), (.t 37)]),
  o1 39 (.not (.t 38))]
def r189_10 : List MOper := [o1 40 (.mov (.t 0)),
  o1 41 (.mov (.t 7)),
  o1 42 (.mov (.t 9)),
  o1 43 (.inv [(153, 224, some (false, 1)), (166, 229, some (false, 1))] (.t 40) [(.t 41), (.t 42)])]
def r189_11 : List MOper := [o1 44 (.mov (.t 9)),
  o1 7 (.mov (.t 44))]
def b189_1 : MCode := .block 1 (.seq (.reg false r189_3 [0, 1, 2, 7, 8])
 (.seq (.seq (.reg false r189_4 [0, 1, 2, 7, 8, 21])
 (.cond 21 (.exit 0) (.skip)))
 (.seq (.reg false r189_5 [0, 1, 2, 7, 8, 9])
 (.seq (.seq (.reg false r189_6 [0, 1, 2, 7, 8, 9, 10])
 (.seq (.reg false r189_7 [0, 1, 2, 7, 9, 10, 33])
 (.cond 33 (.reg false r189_8 [0, 1, 2, 7, 9]) (.skip))))
 (.seq (.seq (.reg false r189_9 [0, 1, 2, 7, 9, 39])
 (.cond 39 (.exit 0) (.skip)))
 (.seq (.reg false r189_10 [0, 1, 2, 9])
 (.reg false r189_11 [0, 1, 2, 7])))))))
def r189_12 : List MOper := [o1 45 (.mov (.t 7)),
  o1 46 (.mov (.t 1)),
  o1 47 (.bin .gtr (.t 45) (.t 46)),
  o1 6 (.mov (.t 47))]
def c189 : MCode := .seq (.reg false r189_1 [0, 1, 2])
 (.seq (.reg false r189_2 [0, 1, 2, 7])
 (.seq (.block 0 (.loop [0, 1, 2, 7] b189_1))
 (.seq (.reg false r189_12 [6])
 (.ret))))
def m189 : MFunc := ⟨0, [.tmp 6], c189⟩
def r190_1 : List MOper := [o1 4 (.box (.t 1)),
  o1 6 (.alloc [.int .i64 0, .int .i64 0, .int .i64 0, .bool false] [])]
def r190_2 : List MOper := [o1 9 (.fld 3 (.t 4)),
  o1 10 (.ld false 1 (.t 9))]
def r190_3 : List MOper := [o1 11 (.ld true 4 (.t 4)),
  n1 (.st 4 (.t 6) (.t 11))]
def r190_4 : List MOper := [o1 12 (.mov (.t 2)),
  o1 13 (.bin .quo (.t 12) (.i 2)),
  o1 7 (.mov (.t 13))]
def r190_5 : List MOper := [o1 14 (.mov (.t 7)),
  o1 15 (.mn [(.t 14), (.i 3)]),
  o1 16 (.mov (.i 0))]
def r190_6 : List MOper := [o1 17 (.bin .lss (.t 16) (.t 15))]
def r190_7 : List MOper := [o1 18 (.mov (.t 16)),
  o1 8 (.mov (.t 18))]
def r190_8 : List MOper := [o1 19 (.mov (.t 8)),
  o1 20 (.fld 0 (.t 4)),
  o1 21 (.ixa 3 1 (.t 20) (.t 19)),
  n1 (.st 1 (.t 21) (.i 0))]
def r190_9 : List MOper := [o1 22 (.bin .add (.t 16) (.i 1)),
  o1 16 (.mov (.t 22))]
def b190_1 : MCode := .seq (.reg false r190_6 [0, 2, 4, 6, 7, 15, 16, 17])
 (.seq (.cond 17 (.skip) (.exit 0))
 (.seq (.block 1 (.seq (.reg false r190_7 [0, 2, 4, 6, 7, 8, 15, 16])
 (.reg false r190_8 [0, 2, 4, 6, 7, 15, 16])))
 (.reg false r190_9 [0, 2, 4, 6, 7, 15, 16])))
def r190_10 : List MOper := [o1 23 (.mov (.t 2)),
  o1 24 (.bin .rem (.t 23) (.i 2)),
  o1 25 (.bin .eql (.t 24) (.i 0))]
def r190_11 : List MOper := [o1 26 (.ld true 4 (.t 4)),
  n1 (.st 4 (.t 6) (.t 26))]
def r190_12 : List MOper := [o1 27 (.mov (.t 7)),
  o1 28 (.bin .lss (.t 27) (.i 3))]
def q190_13 : List MOper := [o1 31 (.mov (.t 7)),
  o1 32 (.fld 0 (.t 4)),
  o1 33 (.ixa 3 1 (.t 32) (.t 31)),
  ox (some 34) none .R false (.ld false 1 (.t 33)),
  o1 35 (.mov (.t 0)),
  o1 36 (.mov (.t 7)),
  o1 37 (.nilck (.t 35)),
  o1 38 (.fld 3 (.t 37)),
  o1 39 (.ixa 3 1 (.t 38) (.t 36)),
  ox (some 40) none .R false (.ld false 1 (.t 39)),
  o1 41 (.bin .lss (.t 34) (.t 40))]
def r190_13 : List MOper := q190_13
def r190_14 : List MOper := [o1 42 (.mov (.t 7)),
  o1 43 (.fld 0 (.t 4)),
  o1 44 (.ixa 3 1 (.t 43) (.t 42)),
  o1 45 (.ld false 1 (.t 44)),
  o1 46 (.bin .add (.t 45) (.i 1)),
  o1 47 (.fld 0 (.t 4)),
  o1 48 (.ixa 3 1 (.t 47) (.t 42)),
  n1 (.st 1 (.t 48) (.t 46))]
def r190_15 : List MOper := [o1 49 (.ld true 4 (.t 4)),
  n1 (.st 4 (.t 6) (.t 49))]
def r190_16 : List MOper := [o1 50 (.mov (.t 7)),
  o1 51 (.fld 0 (.t 4)),
  o1 52 (.ixa 3 1 (.t 51) (.t 50)),
  n1 (.st 1 (.t 52) (.i 0))]
def r190_17 : List MOper := [o1 29 (.mov (.t 7)),
  o1 30 (.bin .add (.t 29) (.i 1)),
  o1 7 (.mov (.t 30))]
def b190_2 : MCode := .seq (.seq (.reg false r190_12 [0, 4, 6, 7, 28])
 (.cond 28 (.skip) (.exit 2)))
 (.seq (.block 3 (.seq (.seq (.reg true r190_13 [0, 4, 6, 7, 41])
 (.cond 41 (.seq (.reg false r190_14 [4, 6])
 (.seq (.reg false r190_15 [6])
 (.ret))) (.skip)))
 (.reg false r190_16 [0, 4, 6, 7])))
 (.reg false r190_17 [0, 4, 6, 7]))
def r190_18 : List MOper := [o1 53 (.build [.int .i64 0, .int .i64 0, .int .i64 0, .bool false] [] [(3, 1, (.c (.bool true)))]),
  n1 (.st 4 (.t 6) (.t 53))]
def c190 : MCode := .seq (.reg false r190_1 [0, 2, 4, 6])
 (.seq (.seq (.reg false r190_2 [0, 2, 4, 6, 10])
 (.cond 10 (.seq (.reg false r190_3 [6])
 (.ret)) (.skip)))
 (.seq (.reg false r190_4 [0, 2, 4, 6, 7])
 (.seq (.seq (.reg false r190_5 [0, 2, 4, 6, 7, 15, 16])
 (.block 0 (.loop [0, 2, 4, 6, 7, 15, 16] b190_1)))
 (.seq (.seq (.reg false r190_10 [0, 4, 6, 7, 25])
 (.cond 25 (.seq (.reg false r190_11 [6])
 (.ret)) (.skip)))
 (.seq (.block 2 (.loop [0, 4, 6, 7] b190_2))
 (.seq (.reg false r190_18 [6])
 (.ret)))))))
def m190 : MFunc := ⟨1, [.cell 6 true 4], c190⟩
def r191_1 : List MOper := [o1 4 (.mov (.i 0))]
def r191_2 : List MOper := [o1 7 (.mov (.t 0)),
  o1 8 (.call 202 [(.t 7)]),
  o1 5 (.mov (.t 8))]
def r191_3 : List MOper := [o1 9 (.mov (.t 1)),
  o1 10 (.call 202 [(.t 9)]),
  o1 6 (.mov (.t 10))]
def r191_4 : List MOper := [o1 11 (.mov (.t 5))]
def r191_5 : List MOper := [o1 12 (.mov (.t 6))]
def r191_6 : List MOper := [o1 4 (.mov (.i 0))]
def r191_7 : List MOper := [o1 4 (.mov (.i (-1)))]
def r191_8 : List MOper := [o1 13 (.mov (.t 6))]
def r191_9 : List MOper := [o1 4 (.mov (.i 1))]
def r191_10 : List MOper := [o1 14 (.mov (.t 0)),
  o1 15 (.mov (.t 1)),
  o1 16 (.bin .lss (.t 14) (.t 15))]
def r191_11 : List MOper := [o1 4 (.mov (.i (-1)))]
def r191_12 : List MOper := [o1 17 (.mov (.t 0)),
  o1 18 (.mov (.t 1)),
  o1 19 (.bin .gtr (.t 17) (.t 18))]
def r191_13 : List MOper := [o1 4 (.mov (.i 1))]
def r191_14 : List MOper := [o1 4 (.mov (.i 0))]
def c191 : MCode := .seq (.reg false r191_1 [0, 1])
 (.seq (.reg false r191_2 [0, 1, 5])
 (.seq (.reg false r191_3 [0, 1, 5, 6])
 (.seq (.seq (.reg false r191_4 [0, 1, 6, 11])
 (.cond 11 (.seq (.seq (.reg false r191_5 [12])
 (.cond 12 (.seq (.reg false r191_6 [4])
 (.ret)) (.skip)))
 (.seq (.reg false r191_7 [4])
 (.ret))) (.skip)))
 (.seq (.seq (.reg false r191_8 [0, 1, 13])
 (.cond 13 (.seq (.reg false r191_9 [4])
 (.ret)) (.skip)))
 (.seq (.seq (.reg false r191_10 [0, 1, 16])
 (.cond 16 (.seq (.reg false r191_11 [4])
 (.ret)) (.skip)))
 (.seq (.seq (.reg false r191_12 [19])
 (.cond 19 (.seq (.reg false r191_13 [4])
 (.ret)) (.skip)))
 (.seq (.reg false r191_14 [4])
 (.ret))))))))
def m191 : MFunc := ⟨3, [.tmp 4], c191⟩
def r192_1 : List MOper := [o1 2 (.mov (.i 0))]
def r192_2 : List MOper := [o1 3 (.mov (.t 0))]
def r192_3 : List MOper := [o1 2 (.mov (.i 1))]
def r192_4 : List MOper := [o1 2 (.mov (.i 0))]
def c192 : MCode := .seq (.reg false r192_1 [0])
 (.seq (.seq (.reg false r192_2 [3])
 (.cond 3 (.seq (.reg false r192_3 [2])
 (.ret)) (.skip)))
 (.seq (.reg false r192_4 [2])
 (.ret)))
def m192 : MFunc := ⟨3, [.tmp 2], c192⟩
def r193_1 : List MOper := [o1 4 (.mov (.c (.int .u32 0))),
  o1 5 (.mov (.c (.int .u32 0)))]
def r193_2 : List MOper := [o1 7 (.mov (.t 0)),
  o1 8 (.cvt .u64 (.t 7)),
  o1 9 (.mov (.t 1)),
  o1 10 (.cvt .u64 (.t 9)),
  o1 11 (.bin .mul (.t 8) (.t 10)),
  o1 6 (.mov (.t 11))]
def r193_3 : List MOper := [o1 12 (.mov (.t 6)),
  o1 13 (.bin .shr (.t 12) (.c (.int .u64 32))),
  o1 14 (.cvt .u32 (.t 13)),
  o1 15 (.mov (.t 6)),
  o1 16 (.cvt .u32 (.t 15)),
  o1 4 (.mov (.t 14)),
  o1 5 (.mov (.t 16))]
def c193 : MCode := .seq (.reg false r193_1 [0, 1])
 (.seq (.reg false r193_2 [6])
 (.seq (.reg false r193_3 [4, 5])
 (.ret)))
def m193 : MFunc := ⟨3, [.tmp 4, .tmp 5], c193⟩
def r194_1 : List MOper := [o1 4 (.mov (.c (.int .u64 0))),
  o1 5 (.mov (.c (.int .u64 0)))]
def r194_2 : List MOper := [o1 14 (.mov (.t 0)),
  o1 15 (.bin .and (.t 14) (.c (.int .u64 4294967295))),
  o1 6 (.mov (.t 15))]
def r194_3 : List MOper := [o1 16 (.mov (.t 0)),
  o1 17 (.bin .shr (.t 16) (.c (.int .u64 32))),
  o1 7 (.mov (.t 17))]
def r194_4 : List MOper := [o1 18 (.mov (.t 1)),
  o1 19 (.bin .and (.t 18) (.c (.int .u64 4294967295))),
  o1 8 (.mov (.t 19))]
def r194_5 : List MOper := [o1 20 (.mov (.t 1)),
  o1 21 (.bin .shr (.t 20) (.c (.int .u64 32))),
  o1 9 (.mov (.t 21))]
def r194_6 : List MOper := [o1 22 (.mov (.t 6)),
  o1 23 (.mov (.t 8)),
  o1 24 (.bin .mul (.t 22) (.t 23)),
  o1 10 (.mov (.t 24))]
def r194_7 : List MOper := [o1 25 (.mov (.t 7)),
  o1 26 (.mov (.t 8)),
  o1 27 (.bin .mul (.t 25) (.t 26)),
  o1 28 (.mov (.t 10)),
  o1 29 (.bin .shr (.t 28) (.c (.int .u64 32))),
  o1 30 (.bin .add (.t 27) (.t 29)),
  o1 11 (.mov (.t 30))]
def r194_8 : List MOper := [o1 31 (.mov (.t 11)),
  o1 32 (.bin .and (.t 31) (.c (.int .u64 4294967295))),
  o1 12 (.mov (.t 32))]
def r194_9 : List MOper := [o1 33 (.mov (.t 11)),
  o1 34 (.bin .shr (.t 33) (.c (.int .u64 32))),
  o1 13 (.mov (.t 34))]
def r194_10 : List MOper := [o1 35 (.mov (.t 12)),
  o1 36 (.mov (.t 6)),
  o1 37 (.mov (.t 9)),
  o1 38 (.bin .mul (.t 36) (.t 37)),
  o1 39 (.bin .add (.t 35) (.t 38)),
  o1 12 (.mov (.t 39))]
def r194_11 : List MOper := [o1 40 (.mov (.t 7)),
  o1 41 (.mov (.t 9)),
  o1 42 (.bin .mul (.t 40) (.t 41)),
  o1 43 (.mov (.t 13)),
  o1 44 (.bin .add (.t 42) (.t 43)),
  o1 45 (.mov (.t 12)),
  o1 46 (.bin .shr (.t 45) (.c (.int .u64 32))),
  o1 47 (.bin .add (.t 44) (.t 46)),
  o1 4 (.mov (.t 47))]
def r194_12 : List MOper := [o1 48 (.mov (.t 0)),
  o1 49 (.mov (.t 1)),
  o1 50 (.bin .mul (.t 48) (.t 49)),
  o1 5 (.mov (.t 50))]
def c194 : MCode := .seq (.reg false r194_1 [0, 1])
 (.seq (.reg false r194_2 [0, 1, 6])
 (.seq (.reg false r194_3 [0, 1, 6, 7])
 (.seq (.reg false r194_4 [0, 1, 6, 7, 8])
 (.seq (.reg false r194_5 [0, 1, 6, 7, 8, 9])
 (.seq (.reg false r194_6 [0, 1, 6, 7, 8, 9, 10])
 (.seq (.reg false r194_7 [0, 1, 6, 7, 9, 11])
 (.seq (.reg false r194_8 [0, 1, 6, 7, 9, 11, 12])
 (.seq (.reg false r194_9 [0, 1, 6, 7, 9, 12, 13])
 (.seq (.reg false r194_10 [0, 1, 7, 9, 12, 13])
 (.seq (.reg false r194_11 [0, 1, 4])
 (.seq (.reg false r194_12 [4, 5])
 (.ret))))))))))))
def m194 : MFunc := ⟨3, [.tmp 4, .tmp 5], c194⟩
def r195_1 : List MOper := [o1 4 (.mov (.i 0))]
def r195_2 : List MOper := [o1 6 (.mov (.t 0)),
  o1 7 (.len (.t 6)),
  o1 8 (.mov (.i 0))]
def r195_3 : List MOper := [o1 9 (.bin .lss (.t 8) (.t 7))]
def r195_4 : List MOper := [o1 10 (.mov (.t 8)),
  o1 5 (.mov (.t 10))]
def r195_5 : List MOper := [o1 11 (.mov (.t 1)),
  o1 12 (.mov (.t 0)),
  o1 13 (.mov (.t 5)),
  o1 14 (.ixs 1 (.t 12) (.t 13)),
  o1 15 (.ld false 1 (.t 14)),
  o1 16 (.callv (.t 11) [(.t 15)])]
def r195_6 : List MOper := [o1 17 (.mov (.t 5)),
  o1 4 (.mov (.t 17))]
def r195_7 : List MOper := [o1 18 (.bin .add (.t 8) (.i 1)),
  o1 8 (.mov (.t 18))]
def b195_1 : MCode := .seq (.reg false r195_3 [0, 1, 7, 8, 9])
 (.seq (.cond 9 (.skip) (.exit 0))
 (.seq (.block 1 (.seq (.reg false r195_4 [0, 1, 5, 7, 8])
 (.seq (.reg false r195_5 [0, 1, 5, 7, 8, 16])
 (.cond 16 (.seq (.reg false r195_6 [4])
 (.ret)) (.skip)))))
 (.reg false r195_7 [0, 1, 7, 8])))
def r195_8 : List MOper := [o1 4 (.mov (.i (-1)))]
def c195 : MCode := .seq (.reg false r195_1 [0, 1])
 (.seq (.seq (.reg false r195_2 [0, 1, 7, 8])
 (.block 0 (.loop [0, 1, 7, 8] b195_1)))
 (.seq (.reg false r195_8 [4])
 (.ret)))
def m195 : MFunc := ⟨1, [.tmp 4], c195⟩
def r196_1 : List MOper := [o1 3 (.mov (.c (.bool false)))]
def r196_2 : List MOper := [o1 4 (.ld false 1 (.t 1)),
  o1 5 (.mov (.t 0)),
  o1 6 (.ixs 1 (.t 4) (.t 5)),
  o1 7 (.ld false 1 (.t 6)),
  o1 3 (.mov (.t 7))]
def c196 : MCode := .seq (.reg false r196_1 [0, 1])
 (.seq (.reg false r196_2 [3])
 (.ret))
def m196 : MFunc := ⟨1, [.tmp 3], c196⟩
def r197_1 : List MOper := [o1 4 (.mov (.c (.fz .isnil 1 [])))]
def r197_2 : List MOper := [o1 7 (.mov (.t 0)),
  o1 8 (.nilck (.t 7)),
  o1 9 (.fld 0 (.t 8)),
  o1 10 (.ld true 2 (.t 9)),
  o1 11 (.call 41 [(.t 10), (.c (.fz .isnil 1 []))]),
  o1 5 (.mov (.t 11))]
def r197_3 : List MOper := [o1 12 (.mov (.t 1)),
  o1 13 (.mov (.t 5)),
  o1 14 (.callv (.t 12) [(.t 13)]),
  o1 6 (.mov (.t 14))]
def r197_4 : List MOper := [o1 15 (.mov (.t 5)),
  o1 16 (.mov (.t 6)),
  o1 17 (.call 96 [(.t 15), (.t 16)])]
def r197_5 : List MOper := [o1 18 (.mov (.t 5)),
  o1 4 (.mov (.t 18))]
def r197_6 : List MOper := [o1 19 (.mov (.t 6)),
  o1 5 (.mov (.t 19))]
def b197_1 : MCode := .block 1 (.seq (.reg false r197_3 [1, 5, 6])
 (.seq (.seq (.reg false r197_4 [1, 5, 6, 17])
 (.cond 17 (.seq (.reg false r197_5 [4])
 (.ret)) (.skip)))
 (.reg false r197_6 [1, 5])))
def c197 : MCode := .seq (.reg false r197_1 [0, 1])
 (.seq (.reg false r197_2 [1, 5])
 (.block 0 (.loop [1, 5] b197_1)))
def m197 : MFunc := ⟨1, [.tmp 4], c197⟩
def r198_1 : List MOper := [o1 5 (.mov (.c (.fz .isnil 1 [])))]
def q198_2 : List MOper := [ox (some 6) none .R false (.ld false 1 (.t 1)),
  o1 7 (.nilck (.t 6)),
  o1 8 (.fld 0 (.t 7)),
  ox (some 9) none .R false (.ld true 2 (.t 8)),
  ox (some 10) none .R false (.ld false 1 (.t 2)),
  ox (some 11) none .R false (.ld false 1 (.t 1)),
  o1 12 (.nilck (.t 11)),
  o1 13 (.fld 0 (.t 12)),
  ox (some 14) none .R false (.ld true 2 (.t 13)),
  ox (some 15) none .R false (.ld false 1 (.t 1)),
  o1 16 (.nilck (.t 15)),
  o1 17 (.fld 0 (.t 16)),
  ox (some 18) none .R false (.ld true 2 (.t 17)),
  ox (some 19) none .R false (.ld false 1 (.t 3)),
  ox (some 20) none .R false (.call 41 [(.t 18), (.t 19)]),
  ox (some 21) none .R false (.ld false 1 (.t 1)),
  o1 22 (.mov (.t 0)),
  ox (some 23) none .R false (.call 180 [(.t 21), (.t 22)]),
  ox (some 24) none .R false (.call 40 [(.t 14), (.t 20), (.t 23)]),
  ox (some 25) none .R false (.call 68 [(.t 9), (.t 10), (.t 24)]),
  o1 5 (.mov (.t 25))]
def r198_2 : List MOper := q198_2
def c198 : MCode := .seq (.reg false r198_1 [0, 1, 2, 3])
 (.seq (.reg true r198_2 [5])
 (.ret))
def m198 : MFunc := ⟨1, [.tmp 5], c198⟩
def q199_1 : List MOper := [o1 7 (.mov (.t 0)),
  o1 8 (.mov (.t 0)),
  o1 9 (.nilck (.t 8)),
  o1 10 (.fld 7 (.t 9)),
  ox (some 11) none .R false (.ld false 1 (.t 10)),
  o1 12 (.mov (.t 0)),
  o1 13 (.nilck (.t 12)),
  o1 14 (.fld 7 (.t 13)),
  ox (some 15) none .R false (.ld false 1 (.t 14)),
  o1 16 (.len (.t 15)),
  o1 17 (.bin .sub (.t 16) (.i 1)),
  o1 18 (.slc 2 (.t 11) none (some (.t 17))),
  o1 19 (.nilck (.t 7)),
  o1 20 (.fld 7 (.t 19)),
  ox none none .L false (.st 1 (.t 20) (.t 18))]
def r199_1 : List MOper := q199_1
def r199_2 : List MOper := [o1 21 (.mov (.t 0)),
  o1 22 (.nilck (.t 21)),
  o1 23 (.fld 7 (.t 22)),
  o1 24 (.ld false 1 (.t 23)),
  o1 25 (.len (.t 24)),
  o1 26 (.bin .gtr (.t 25) (.i 0))]
def q199_3 : List MOper := [o1 27 (.mov (.t 0)),
  o1 28 (.nilck (.t 27)),
  o1 29 (.fld 7 (.t 28)),
  ox (some 30) none .R false (.ld false 1 (.t 29)),
  o1 31 (.mov (.t 0)),
  o1 32 (.nilck (.t 31)),
  o1 33 (.fld 7 (.t 32)),
  ox (some 34) none .R false (.ld false 1 (.t 33)),
  o1 35 (.len (.t 34)),
  o1 36 (.bin .sub (.t 35) (.i 1)),
  o1 37 (.ixs 2 (.t 30) (.t 36)),
  o1 38 (.fld 0 (.t 37)),
  ox (some 39) none .R false (.ld false 1 (.t 38)),
  o1 4 (.mov (.t 39))]
def r199_3 : List MOper := q199_3
def q199_4 : List MOper := [o1 40 (.mov (.t 0)),
  o1 41 (.nilck (.t 40)),
  o1 42 (.fld 3 (.t 41)),
  ox (some 43) none .R false (.ld false 1 (.t 42)),
  o1 44 (.mov (.t 4)),
  o1 45 (.mov (.t 0)),
  o1 46 (.nilck (.t 45)),
  o1 47 (.fld 3 (.t 46)),
  ox (some 48) none .R false (.ld false 1 (.t 47)),
  o1 49 (.mov (.t 4)),
  o1 50 (.ixs 1 (.t 48) (.t 49)),
  ox (some 51) none .R false (.ld false 1 (.t 50)),
  o1 52 (.mov (.t 0)),
  o1 53 (.nilck (.t 52)),
  o1 54 (.fld 3 (.t 53)),
  ox (some 55) none .R false (.ld false 1 (.t 54)),
  o1 56 (.mov (.t 1)),
  o1 57 (.ixs 1 (.t 55) (.t 56)),
  ox (some 58) none .R false (.ld false 1 (.t 57)),
  o1 59 (.mn [(.t 51), (.t 58)]),
  o1 60 (.ixs 1 (.t 43) (.t 44)),
  ox none none .L false (.st 1 (.t 60) (.t 59))]
def r199_4 : List MOper := q199_4
def q199_5 : List MOper := [o1 61 (.mov (.t 0)),
  o1 62 (.nilck (.t 61)),
  o1 63 (.fld 3 (.t 62)),
  ox (some 64) none .R false (.ld false 1 (.t 63)),
  o1 65 (.mov (.t 1)),
  o1 66 (.ixs 1 (.t 64) (.t 65)),
  ox (some 67) none .R false (.ld false 1 (.t 66)),
  o1 68 (.mov (.t 0)),
  o1 69 (.nilck (.t 68)),
  o1 70 (.fld 2 (.t 69)),
  ox (some 71) none .R false (.ld false 1 (.t 70)),
  o1 72 (.mov (.t 1)),
  o1 73 (.ixs 1 (.t 71) (.t 72)),
  ox (some 74) none .R false (.ld false 1 (.t 73)),
  o1 75 (.bin .lss (.t 67) (.t 74))]
def r199_5 : List MOper := q199_5
def r199_6 : List MOper := [o1 5 (.tnil 1)]
def q199_7 : List MOper := [o1 76 (.mov (.t 0)),
  o1 77 (.nilck (.t 76)),
  o1 78 (.fld 6 (.t 77)),
  ox (some 79) none .R false (.ld false 1 (.t 78)),
  o1 80 (.mov (.t 0)),
  o1 81 (.nilck (.t 80)),
  o1 82 (.fld 6 (.t 81)),
  ox (some 83) none .R false (.ld false 1 (.t 82)),
  o1 84 (.len (.t 83)),
  o1 85 (.bin .sub (.t 84) (.i 1)),
  o1 86 (.ixs 1 (.t 79) (.t 85)),
  ox (some 87) none .R false (.ld false 1 (.t 86)),
  o1 6 (.mov (.t 87))]
def r199_7 : List MOper := q199_7
def q199_8 : List MOper := [o1 88 (.mov (.t 0)),
  o1 89 (.mov (.t 0)),
  o1 90 (.nilck (.t 89)),
  o1 91 (.fld 6 (.t 90)),
  ox (some 92) none .R false (.ld false 1 (.t 91)),
  o1 93 (.mov (.t 0)),
  o1 94 (.nilck (.t 93)),
  o1 95 (.fld 6 (.t 94)),
  ox (some 96) none .R false (.ld false 1 (.t 95)),
  o1 97 (.len (.t 96)),
  o1 98 (.bin .sub (.t 97) (.i 1)),
  o1 99 (.slc 1 (.t 92) none (some (.t 98))),
  o1 100 (.nilck (.t 88)),
  o1 101 (.fld 6 (.t 100)),
  ox none none .L false (.st 1 (.t 101) (.t 99))]
def r199_8 : List MOper := q199_8
def r199_9 : List MOper := [o1 102 (.mov (.t 0)),
  o1 103 (.nilck (.t 102)),
  o1 104 (.fld 4 (.t 103)),
  o1 105 (.ld false 1 (.t 104)),
  o1 106 (.mov (.t 6)),
  o1 107 (.ixs 1 (.t 105) (.t 106)),
  n1 (.st 1 (.t 107) (.c (.bool false)))]
def r199_10 : List MOper := [o1 108 (.mov (.t 5)),
  o1 109 (.mov (.t 6)),
  o1 110 (.bsl false 1 [(.t 109)]),
  o1 111 (.app 1 (.t 108) (.t 110)),
  o1 5 (.mov (.t 111))]
def r199_11 : List MOper := [o1 112 (.mov (.t 6)),
  o1 113 (.mov (.t 1)),
  o1 114 (.bin .eql (.t 112) (.t 113))]
def b199_1 : MCode := .block 1 (.seq (.reg true r199_7 [0, 1, 5, 6])
 (.seq (.reg true r199_8 [0, 1, 5, 6])
 (.seq (.reg false r199_9 [0, 1, 5, 6])
 (.seq (.reg false r199_10 [0, 1, 5, 6])
 (.seq (.reg false r199_11 [0, 1, 5, 114])
 (.cond 114 (.exit 0) (.skip)))))))
def r199_12 : List MOper := [o1 115 (.mov (.t 0)),
  o1 116 (.mov (.t 5)),
  o1 117 (.call 203 [(.t 115), (.t 116)])]
def r199_13 : List MOper := [o1 118 (.mov (.t 0)),
  o1 119 (.mov (.t 0)),
  o1 120 (.nilck (.t 119)),
  o1 121 (.fld 8 (.t 120)),
  o1 122 (.ld false 1 (.t 121)),
  o1 123 (.mov (.t 5)),
  o1 124 (.bsl false 1 [(.t 123)]),
  o1 125 (.app 1 (.t 122) (.t 124)),
  o1 126 (.nilck (.t 118)),
  o1 127 (.fld 8 (.t 126)),
  n1 (.st 1 (.t 127) (.t 125))]
def c199 : MCode := .seq (.reg true r199_1 [0, 1])
 (.seq (.seq (.reg false r199_2 [0, 1, 26])
 (.cond 26 (.seq (.reg true r199_3 [0, 1, 4])
 (.reg true r199_4 [0, 1])) (.skip)))
 (.seq (.seq (.reg true r199_5 [0, 1, 75])
 (.cond 75 (.ret) (.skip)))
 (.seq (.reg false r199_6 [0, 1, 5])
 (.seq (.block 0 (.loop [0, 1, 5] b199_1))
 (.seq (.reg false r199_12 [0, 5, 117])
 (.cond 117 (.reg false r199_13 []) (.skip)))))))
def m199 : MFunc := ⟨0, [], c199⟩
def r200_1 : List MOper := [o1 2 (.box (.t 0)),
  o1 3 (.box (.t 1)),
  o1 4 (.alloc [.fz .isnil 1 [], .fz .isnil 1 []] [])]
def r200_2 : List MOper := [o1 6 (.mkfn 204 [] [(.t 3)]),
  o1 5 (.alloc [.nilf] []),
  n1 (.st 1 (.t 5) (.t 6))]
def r200_3 : List MOper := [o1 7 (.ld true 2 (.t 2)),
  o1 8 (.mkfn 205 [] [(.t 5)]),
  o1 9 (.call 102 [(.t 7), (.t 8)]),
  n1 (.st 2 (.t 4) (.t 9))]
def c200 : MCode := .seq (.reg false r200_1 [2, 3, 4])
 (.seq (.reg false r200_2 [2, 4, 5])
 (.seq (.reg false r200_3 [4])
 (.ret)))
def m200 : MFunc := ⟨3, [.cell 4 true 2], c200⟩
def r201_1 : List MOper := [o1 5 (.mov (.t 1)),
  o1 6 (.bin .sub (.t 5) (.i 1)),
  o1 7 (.bin .quo (.t 6) (.i 2)),
  o1 4 (.mov (.t 7))]
def r201_2 : List MOper := [o1 8 (.mov (.t 4)),
  o1 9 (.mov (.t 1)),
  o1 10 (.bin .eql (.t 8) (.t 9)),
  o1 11 (.mov (.t 10)),
  o2 12 11 false (.mov (.t 0)),
  o2 13 11 false (.mov (.t 1)),
  o2 14 11 false (.mov (.t 4)),
  o2 15 11 false (.inv [(153, 223, some (false, 1)), (166, 228, some (false, 1))] (.t 12) [(.t 13), (.t 14)]),
  o2 16 11 false (.not (.t 15)),
  o1 17 (.pick (.t 11) (.c (.bool true)) (.t 16))]
def r201_3 : List MOper := [o1 18 (.mov (.t 0)),
  o1 19 (.mov (.t 4)),
  o1 20 (.mov (.t 1)),
  o1 21 (.inv [(153, 224, some (false, 1)), (166, 229, some (false, 1))] (.t 18) [(.t 19), (.t 20)])]
def r201_4 : List MOper := [o1 22 (.mov (.t 4)),
  o1 1 (.mov (.t 22))]
def b201_1 : MCode := .block 1 (.seq (.reg false r201_1 [0, 1, 4])
 (.seq (.seq (.reg false r201_2 [0, 1, 4, 17])
 (.cond 17 (.exit 0) (.skip)))
 (.seq (.reg false r201_3 [0, 4])
 (.reg false r201_4 [0, 1]))))
def c201 : MCode := .block 0 (.loop [0, 1] b201_1)
def m201 : MFunc := ⟨0, [], c201⟩
def r202_1 : List MOper := [o1 2 (.mov (.c (.bool false)))]
def r202_2 : List MOper := [o1 3 (.mov (.t 0)),
  o1 4 (.mov (.t 0)),
  o1 5 (.bin .neq (.t 3) (.t 4)),
  o1 2 (.mov (.t 5))]
def c202 : MCode := .seq (.reg false r202_1 [0])
 (.seq (.reg false r202_2 [2])
 (.ret))
def m202 : MFunc := ⟨3, [.tmp 2], c202⟩
def r203_1 : List MOper := [o1 4 (.mov (.c (.bool false)))]
def r203_2 : List MOper := [o1 7 (.mov (.t 1)),
  o1 8 (.len (.t 7)),
  o1 9 (.bin .gtr (.t 8) (.i 1))]
def r203_3 : List MOper := [o1 4 (.mov (.c (.bool true)))]
def q203_4 : List MOper := [o1 10 (.mov (.t 0)),
  o1 11 (.nilck (.t 10)),
  o1 12 (.fld 0 (.t 11)),
  ox (some 13) none .R false (.ld false 1 (.t 12)),
  o1 14 (.mov (.t 1)),
  o1 15 (.ixs 1 (.t 14) (.i 0)),
  ox (some 16) none .R false (.ld false 1 (.t 15)),
  o1 17 (.ixs 1 (.t 13) (.t 16)),
  ox (some 18) none .R false (.ld false 1 (.t 17)),
  o1 19 (.len (.t 18)),
  o1 20 (.mov (.i 0))]
def r203_4 : List MOper := q203_4
def r203_5 : List MOper := [o1 21 (.bin .lss (.t 20) (.t 19))]
def r203_6 : List MOper := [o1 22 (.ixs 1 (.t 18) (.t 20)),
  o1 23 (.ld false 1 (.t 22)),
  o1 6 (.mov (.t 23))]
def r203_7 : List MOper := [o1 24 (.mov (.t 6)),
  o1 25 (.mov (.t 1)),
  o1 26 (.ixs 1 (.t 25) (.i 0)),
  o1 27 (.ld false 1 (.t 26)),
  o1 28 (.bin .eql (.t 24) (.t 27))]
def r203_8 : List MOper := [o1 4 (.mov (.c (.bool true)))]
def r203_9 : List MOper := [o1 29 (.bin .add (.t 20) (.i 1)),
  o1 20 (.mov (.t 29))]
def b203_1 : MCode := .seq (.reg false r203_5 [1, 18, 19, 20, 21])
 (.seq (.cond 21 (.skip) (.exit 0))
 (.seq (.block 1 (.seq (.reg false r203_6 [1, 6, 18, 19, 20])
 (.seq (.reg false r203_7 [1, 18, 19, 20, 28])
 (.cond 28 (.seq (.reg false r203_8 [4])
 (.ret)) (.skip)))))
 (.reg false r203_9 [1, 18, 19, 20])))
def r203_10 : List MOper := [o1 4 (.mov (.c (.bool false)))]
def c203 : MCode := .seq (.reg false r203_1 [0, 1])
 (.seq (.seq (.reg false r203_2 [0, 1, 9])
 (.cond 9 (.seq (.reg false r203_3 [4])
 (.ret)) (.skip)))
 (.seq (.seq (.reg true r203_4 [1, 18, 19, 20])
 (.block 0 (.loop [1, 18, 19, 20] b203_1)))
 (.seq (.reg false r203_10 [4])
 (.ret))))
def m203 : MFunc := ⟨1, [.tmp 4], c203⟩
def r204_1 : List MOper := [o1 3 (.mov (.c (.bool false)))]
def r204_2 : List MOper := [o1 4 (.mov (.t 0)),
  o1 5 (.ld false 1 (.t 1)),
  o1 6 (.len (.t 5)),
  o1 7 (.bin .lss (.t 4) (.t 6)),
  o1 8 (.mov (.t 7)),
  o2 9 8 true (.ld false 1 (.t 1)),
  o2 10 8 true (.mov (.t 0)),
  o2 11 8 true (.ixs 1 (.t 9) (.t 10)),
  o2 12 8 true (.ld false 1 (.t 11)),
  o1 13 (.pick (.t 8) (.t 12) (.c (.bool false))),
  o1 3 (.mov (.t 13))]
def c204 : MCode := .seq (.reg false r204_1 [0, 1])
 (.seq (.reg false r204_2 [3])
 (.ret))
def m204 : MFunc := ⟨1, [.tmp 3], c204⟩
def r205_1 : List MOper := [o1 5 (.mov (.c (.bool false)))]
def r205_2 : List MOper := [o1 6 (.ld false 1 (.t 2)),
  o1 7 (.mov (.t 0)),
  o1 8 (.callv (.t 6) [(.t 7)]),
  o1 9 (.mov (.t 8)),
  o2 10 9 true (.ld false 1 (.t 2)),
  o2 11 9 true (.mov (.t 1)),
  o2 12 9 true (.callv (.t 10) [(.t 11)]),
  o1 13 (.pick (.t 9) (.t 12) (.c (.bool false))),
  o1 5 (.mov (.t 13))]
def c205 : MCode := .seq (.reg false r205_1 [0, 1, 2])
 (.seq (.reg false r205_2 [5])
 (.ret))
def m205 : MFunc := ⟨1, [.tmp 5], c205⟩
def r222_1 : List MOper := [o1 2 (.mov (.i 0))]
def r222_2 : List MOper := [o1 3 (.mov (.t 0)),
  o1 4 (.len (.t 3)),
  o1 2 (.mov (.t 4))]
def c222 : MCode := .seq (.reg false r222_1 [0])
 (.seq (.reg false r222_2 [2])
 (.ret))
def m222 : MFunc := ⟨3, [.tmp 2], c222⟩
def r223_1 : List MOper := [o1 6 (.mov (.c (.bool false)))]
def q223_2 : List MOper := [o1 7 (.mov (.t 0)),
  o1 8 (.mov (.t 1)),
  o1 9 (.ixs 1 (.t 7) (.t 8)),
  ox (some 10) none .R false (.ld false 1 (.t 9)),
  o1 11 (.mov (.t 0)),
  o1 12 (.mov (.t 2)),
  o1 13 (.ixs 1 (.t 11) (.t 12)),
  ox (some 14) none .R false (.ld false 1 (.t 13)),
  o1 15 (.bin .lss (.t 10) (.t 14)),
  o1 6 (.mov (.t 15))]
def r223_2 : List MOper := q223_2
def c223 : MCode := .seq (.reg false r223_1 [0, 1, 2])
 (.seq (.reg true r223_2 [6])
 (.ret))
def m223 : MFunc := ⟨3, [.tmp 6], c223⟩
def q224_1 : List MOper := [o1 6 (.mov (.t 0)),
  o1 7 (.mov (.t 1)),
  o1 8 (.mov (.t 0)),
  o1 9 (.mov (.t 2)),
  o1 10 (.mov (.t 0)),
  o1 11 (.mov (.t 2)),
  o1 12 (.ixs 1 (.t 10) (.t 11)),
  ox (some 13) none .R false (.ld false 1 (.t 12)),
  o1 14 (.mov (.t 0)),
  o1 15 (.mov (.t 1)),
  o1 16 (.ixs 1 (.t 14) (.t 15)),
  ox (some 17) none .R false (.ld false 1 (.t 16)),
  o1 18 (.ixs 1 (.t 6) (.t 7)),
  ox none none .L false (.st 1 (.t 18) (.t 13)),
  o1 19 (.ixs 1 (.t 8) (.t 9)),
  ox none none .L false (.st 1 (.t 19) (.t 17))]
def r224_1 : List MOper := q224_1
def c224 : MCode := .reg true r224_1 []
def m224 : MFunc := ⟨0, [], c224⟩
def r225_1 : List MOper := [o1 2 (.mov (.c (.unk)))]
def r225_2 : List MOper := [o1 5 (.mov (.t 0)),
  o1 6 (.nilck (.t 5)),
  o1 7 (.ld false 1 (.t 6)),
  o1 8 (.len (.t 7)),
  o1 9 (.bin .sub (.t 8) (.i 1)),
  o1 3 (.mov (.t 9))]
def r225_3 : List MOper := [o1 10 (.mov (.t 0)),
  o1 11 (.nilck (.t 10)),
  o1 12 (.ld false 1 (.t 11)),
  o1 13 (.mov (.t 3)),
  o1 14 (.ixs 1 (.t 12) (.t 13)),
  o1 15 (.ld false 1 (.t 14)),
  o1 4 (.mov (.t 15))]
def r225_4 : List MOper := [o1 16 (.mov (.t 0)),
  o1 17 (.mov (.t 0)),
  o1 18 (.nilck (.t 17)),
  o1 19 (.ld false 1 (.t 18)),
  o1 20 (.mov (.t 3)),
  o1 21 (.slc 1 (.t 19) none (some (.t 20))),
  o1 22 (.nilck (.t 16)),
  n1 (.st 1 (.t 22) (.t 21))]
def r225_5 : List MOper := [o1 23 (.mov (.t 4)),
  o1 24 (.mkif 3 (.t 23)),
  o1 2 (.mov (.t 24))]
def c225 : MCode := .seq (.reg false r225_1 [0])
 (.seq (.reg false r225_2 [0, 3])
 (.seq (.reg false r225_3 [0, 3, 4])
 (.seq (.reg false r225_4 [4])
 (.seq (.reg false r225_5 [2])
 (.ret)))))
def m225 : MFunc := ⟨0, [.tmp 2], c225⟩
def r226_1 : List MOper := [o1 7 (.mov (.t 1)),
  o1 8 (.tas 3 (.t 7)),
  o1 6 (.mov (.t 8)),
  o1 9 (.ext (.t 6) 0),
  o1 10 (.ext (.t 6) 1),
  o1 4 (.mov (.t 9)),
  o1 5 (.mov (.t 10))]
def r226_2 : List MOper := [o1 11 (.mov (.t 5))]
def r226_3 : List MOper := [o1 12 (.mov (.t 0)),
  o1 13 (.mov (.t 0)),
  o1 14 (.nilck (.t 13)),
  o1 15 (.ld false 1 (.t 14)),
  o1 16 (.mov (.t 4)),
  o1 17 (.bsl false 1 [(.t 16)]),
  o1 18 (.app 1 (.t 15) (.t 17)),
  o1 19 (.nilck (.t 12)),
  n1 (.st 1 (.t 19) (.t 18))]
def c226 : MCode := .seq (.reg false r226_1 [0, 4, 5])
 (.seq (.reg false r226_2 [0, 4, 11])
 (.cond 11 (.reg false r226_3 []) (.skip)))
def m226 : MFunc := ⟨0, [], c226⟩
def r227_1 : List MOper := [o1 2 (.mov (.i 0))]
def r227_2 : List MOper := [o1 3 (.mov (.t 0)),
  o1 4 (.len (.t 3)),
  o1 2 (.mov (.t 4))]
def c227 : MCode := .seq (.reg false r227_1 [0])
 (.seq (.reg false r227_2 [2])
 (.ret))
def m227 : MFunc := ⟨3, [.tmp 2], c227⟩
def r228_1 : List MOper := [o1 6 (.mov (.c (.bool false)))]
def q228_2 : List MOper := [o1 7 (.mov (.t 0)),
  o1 8 (.mov (.t 1)),
  o1 9 (.ixs 2 (.t 7) (.t 8)),
  o1 10 (.fld 1 (.t 9)),
  ox (some 11) none .R false (.ld false 1 (.t 10)),
  o1 12 (.mov (.t 0)),
  o1 13 (.mov (.t 2)),
  o1 14 (.ixs 2 (.t 12) (.t 13)),
  o1 15 (.fld 1 (.t 14)),
  ox (some 16) none .R false (.ld false 1 (.t 15)),
  o1 17 (.bin .neq (.t 11) (.t 16))]
def r228_2 : List MOper := q228_2
def q228_3 : List MOper := [o1 18 (.mov (.t 0)),
  o1 19 (.mov (.t 1)),
  o1 20 (.ixs 2 (.t 18) (.t 19)),
  o1 21 (.fld 1 (.t 20)),
  ox (some 22) none .R false (.ld false 1 (.t 21)),
  o1 23 (.mov (.t 0)),
  o1 24 (.mov (.t 2)),
  o1 25 (.ixs 2 (.t 23) (.t 24)),
  o1 26 (.fld 1 (.t 25)),
  ox (some 27) none .R false (.ld false 1 (.t 26)),
  o1 28 (.bin .lss (.t 22) (.t 27)),
  o1 6 (.mov (.t 28))]
def r228_3 : List MOper := q228_3
def q228_4 : List MOper := [o1 29 (.mov (.t 0)),
  o1 30 (.mov (.t 1)),
  o1 31 (.ixs 2 (.t 29) (.t 30)),
  o1 32 (.fld 0 (.t 31)),
  ox (some 33) none .R false (.ld false 1 (.t 32)),
  o1 34 (.mov (.t 0)),
  o1 35 (.mov (.t 2)),
  o1 36 (.ixs 2 (.t 34) (.t 35)),
  o1 37 (.fld 0 (.t 36)),
  ox (some 38) none .R false (.ld false 1 (.t 37)),
  o1 39 (.bin .lss (.t 33) (.t 38)),
  o1 6 (.mov (.t 39))]
def r228_4 : List MOper := q228_4
def c228 : MCode := .seq (.reg false r228_1 [0, 1, 2])
 (.seq (.seq (.reg true r228_2 [0, 1, 2, 17])
 (.cond 17 (.seq (.reg true r228_3 [6])
 (.ret)) (.skip)))
 (.seq (.reg true r228_4 [6])
 (.ret)))
def m228 : MFunc := ⟨3, [.tmp 6], c228⟩
def q229_1 : List MOper := [o1 6 (.mov (.t 0)),
  o1 7 (.mov (.t 1)),
  o1 8 (.mov (.t 0)),
  o1 9 (.mov (.t 2)),
  o1 10 (.mov (.t 0)),
  o1 11 (.mov (.t 2)),
  o1 12 (.ixs 2 (.t 10) (.t 11)),
  ox (some 13) none .R false (.ld true 2 (.t 12)),
  o1 14 (.mov (.t 0)),
  o1 15 (.mov (.t 1)),
  o1 16 (.ixs 2 (.t 14) (.t 15)),
  ox (some 17) none .R false (.ld true 2 (.t 16)),
  o1 18 (.ixs 2 (.t 6) (.t 7)),
  ox none none .L false (.st 2 (.t 18) (.t 13)),
  o1 19 (.ixs 2 (.t 8) (.t 9)),
  ox none none .L false (.st 2 (.t 19) (.t 17))]
def r229_1 : List MOper := q229_1
def c229 : MCode := .reg true r229_1 []
def m229 : MFunc := ⟨0, [], c229⟩
def r230_1 : List MOper := [o1 2 (.mov (.c (.unk)))]
def r230_2 : List MOper := [o1 5 (.mov (.t 0)),
  o1 6 (.nilck (.t 5)),
  o1 7 (.ld false 1 (.t 6)),
  o1 8 (.len (.t 7)),
  o1 9 (.bin .sub (.t 8) (.i 1)),
  o1 3 (.mov (.t 9))]
def r230_3 : List MOper := [o1 10 (.mov (.t 0)),
  o1 11 (.nilck (.t 10)),
  o1 12 (.ld false 1 (.t 11)),
  o1 13 (.mov (.t 3)),
  o1 14 (.ixs 2 (.t 12) (.t 13)),
  o1 15 (.ld true 2 (.t 14)),
  o1 4 (.alloc [.int .i64 0, .int .i64 0] []),
  n1 (.st 2 (.t 4) (.t 15))]
def r230_4 : List MOper := [o1 16 (.mov (.t 0)),
  o1 17 (.mov (.t 0)),
  o1 18 (.nilck (.t 17)),
  o1 19 (.ld false 1 (.t 18)),
  o1 20 (.mov (.t 3)),
  o1 21 (.slc 2 (.t 19) none (some (.t 20))),
  o1 22 (.nilck (.t 16)),
  n1 (.st 1 (.t 22) (.t 21))]
def r230_5 : List MOper := [o1 23 (.ld true 2 (.t 4)),
  o1 24 (.mkif 164 (.t 23)),
  o1 2 (.mov (.t 24))]
def c230 : MCode := .seq (.reg false r230_1 [0])
 (.seq (.reg false r230_2 [0, 3])
 (.seq (.reg false r230_3 [0, 3, 4])
 (.seq (.reg false r230_4 [4])
 (.seq (.reg false r230_5 [2])
 (.ret)))))
def m230 : MFunc := ⟨0, [.tmp 2], c230⟩
def r231_1 : List MOper := [o1 7 (.mov (.t 1)),
  o1 8 (.tas 164 (.t 7)),
  o1 6 (.mov (.t 8)),
  o1 9 (.ext (.t 6) 0),
  o1 10 (.ext (.t 6) 1),
  o1 4 (.alloc [.int .i64 0, .int .i64 0] []),
  n1 (.st 2 (.t 4) (.t 9)),
  o1 5 (.mov (.t 10))]
def r231_2 : List MOper := [o1 11 (.mov (.t 5))]
def q231_3 : List MOper := [o1 12 (.mov (.t 0)),
  o1 13 (.mov (.t 0)),
  o1 14 (.nilck (.t 13)),
  ox (some 15) none .R false (.ld false 1 (.t 14)),
  ox (some 16) none .R false (.ld true 2 (.t 4)),
  o1 17 (.bsl false 2 [(.t 16)]),
  ox (some 18) none .L false (.app 2 (.t 15) (.t 17)),
  o1 19 (.nilck (.t 12)),
  ox none none .L false (.st 1 (.t 19) (.t 18))]
def r231_3 : List MOper := q231_3
def c231 : MCode := .seq (.reg false r231_1 [0, 4, 5])
 (.seq (.reg false r231_2 [0, 4, 11])
 (.cond 11 (.reg true r231_3 []) (.skip)))
def m231 : MFunc := ⟨0, [], c231⟩
end Go.Proofs.Ytlilfiekkaolkaa.Am
