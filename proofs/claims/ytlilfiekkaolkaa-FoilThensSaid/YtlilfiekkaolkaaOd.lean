/- Which regions of open order are reckoned in the order of the text. -/
import Derived.Test.YtlilfiekkaolkaaEw
import Derived.KernelRfl
namespace Go.Proofs.Ytlilfiekkaolkaa.Am
open Go
theorem d3_19 : okD (quietOf prog) r3_19 = true := by kernel_rfl
theorem x3_19 {lo : Nat} {E : Env} {T : Tab} {live : List Nat} : exec prog lo (.reg true r3_19 live) E T = regK live (runOps (acall prog) lo q3_19 E T) := ex_regD d3_19
theorem d4_5 : okD (quietOf prog) r4_5 = true := by kernel_rfl
theorem x4_5 {lo : Nat} {E : Env} {T : Tab} {live : List Nat} : exec prog lo (.reg true r4_5 live) E T = regK live (runOps (acall prog) lo q4_5 E T) := ex_regD d4_5
theorem d4_6 : okD (quietOf prog) r4_6 = true := by kernel_rfl
theorem x4_6 {lo : Nat} {E : Env} {T : Tab} {live : List Nat} : exec prog lo (.reg true r4_6 live) E T = regK live (runOps (acall prog) lo q4_6 E T) := ex_regD d4_6
theorem d5_12 : okD (quietOf prog) r5_12 = true := by kernel_rfl
theorem x5_12 {lo : Nat} {E : Env} {T : Tab} {live : List Nat} : exec prog lo (.reg true r5_12 live) E T = regK live (runOps (acall prog) lo q5_12 E T) := ex_regD d5_12
theorem d5_5 : okD (quietOf prog) r5_5 = true := by kernel_rfl
theorem x5_5 {lo : Nat} {E : Env} {T : Tab} {live : List Nat} : exec prog lo (.reg true r5_5 live) E T = regK live (runOps (acall prog) lo q5_5 E T) := ex_regD d5_5
theorem d5_6 : okD (quietOf prog) r5_6 = true := by kernel_rfl
theorem x5_6 {lo : Nat} {E : Env} {T : Tab} {live : List Nat} : exec prog lo (.reg true r5_6 live) E T = regK live (runOps (acall prog) lo q5_6 E T) := ex_regD d5_6
theorem d8_4 : okD (quietOf prog) r8_4 = true := by kernel_rfl
theorem x8_4 {lo : Nat} {E : Env} {T : Tab} {live : List Nat} : exec prog lo (.reg true r8_4 live) E T = regK live (runOps (acall prog) lo q8_4 E T) := ex_regD d8_4
theorem d9_18 : okD (quietOf prog) r9_18 = true := by kernel_rfl
theorem x9_18 {lo : Nat} {E : Env} {T : Tab} {live : List Nat} : exec prog lo (.reg true r9_18 live) E T = regK live (runOps (acall prog) lo q9_18 E T) := ex_regD d9_18
theorem d11_4 : okD (quietOf prog) r11_4 = true := by kernel_rfl
theorem x11_4 {lo : Nat} {E : Env} {T : Tab} {live : List Nat} : exec prog lo (.reg true r11_4 live) E T = regK live (runOps (acall prog) lo q11_4 E T) := ex_regD d11_4
theorem d12_10 : okD (quietOf prog) r12_10 = true := by kernel_rfl
theorem x12_10 {lo : Nat} {E : Env} {T : Tab} {live : List Nat} : exec prog lo (.reg true r12_10 live) E T = regK live (runOps (acall prog) lo q12_10 E T) := ex_regD d12_10
theorem d13_6 : okD (quietOf prog) r13_6 = true := by kernel_rfl
theorem x13_6 {lo : Nat} {E : Env} {T : Tab} {live : List Nat} : exec prog lo (.reg true r13_6 live) E T = regK live (runOps (acall prog) lo q13_6 E T) := ex_regD d13_6
theorem d13_15 : okD (quietOf prog) r13_15 = true := by kernel_rfl
theorem x13_15 {lo : Nat} {E : Env} {T : Tab} {live : List Nat} : exec prog lo (.reg true r13_15 live) E T = regK live (runOps (acall prog) lo q13_15 E T) := ex_regD d13_15
theorem d15_10 : okD (quietOf prog) r15_10 = true := by kernel_rfl
theorem x15_10 {lo : Nat} {E : Env} {T : Tab} {live : List Nat} : exec prog lo (.reg true r15_10 live) E T = regK live (runOps (acall prog) lo q15_10 E T) := ex_regD d15_10
theorem d15_5 : okD (quietOf prog) r15_5 = true := by kernel_rfl
theorem x15_5 {lo : Nat} {E : Env} {T : Tab} {live : List Nat} : exec prog lo (.reg true r15_5 live) E T = regK live (runOps (acall prog) lo q15_5 E T) := ex_regD d15_5
theorem d17_11 : okD (quietOf prog) r17_11 = true := by kernel_rfl
theorem x17_11 {lo : Nat} {E : Env} {T : Tab} {live : List Nat} : exec prog lo (.reg true r17_11 live) E T = regK live (runOps (acall prog) lo q17_11 E T) := ex_regD d17_11
theorem d17_22 : okD (quietOf prog) r17_22 = true := by kernel_rfl
theorem x17_22 {lo : Nat} {E : Env} {T : Tab} {live : List Nat} : exec prog lo (.reg true r17_22 live) E T = regK live (runOps (acall prog) lo q17_22 E T) := ex_regD d17_22
theorem d18_21 : okD (quietOf prog) r18_21 = true := by kernel_rfl
theorem x18_21 {lo : Nat} {E : Env} {T : Tab} {live : List Nat} : exec prog lo (.reg true r18_21 live) E T = regK live (runOps (acall prog) lo q18_21 E T) := ex_regD d18_21
theorem d19_22 : okD (quietOf prog) r19_22 = true := by kernel_rfl
theorem x19_22 {lo : Nat} {E : Env} {T : Tab} {live : List Nat} : exec prog lo (.reg true r19_22 live) E T = regK live (runOps (acall prog) lo q19_22 E T) := ex_regD d19_22
theorem d19_16 : okD (quietOf prog) r19_16 = true := by kernel_rfl
theorem x19_16 {lo : Nat} {E : Env} {T : Tab} {live : List Nat} : exec prog lo (.reg true r19_16 live) E T = regK live (runOps (acall prog) lo q19_16 E T) := ex_regD d19_16
theorem d22_4 : okD (quietOf prog) r22_4 = true := by kernel_rfl
theorem x22_4 {lo : Nat} {E : Env} {T : Tab} {live : List Nat} : exec prog lo (.reg true r22_4 live) E T = regK live (runOps (acall prog) lo q22_4 E T) := ex_regD d22_4
theorem d23_19 : okD (quietOf prog) r23_19 = true := by kernel_rfl
theorem x23_19 {lo : Nat} {E : Env} {T : Tab} {live : List Nat} : exec prog lo (.reg true r23_19 live) E T = regK live (runOps (acall prog) lo q23_19 E T) := ex_regD d23_19
theorem d25_15 : okD (quietOf prog) r25_15 = true := by kernel_rfl
theorem x25_15 {lo : Nat} {E : Env} {T : Tab} {live : List Nat} : exec prog lo (.reg true r25_15 live) E T = regK live (runOps (acall prog) lo q25_15 E T) := ex_regD d25_15
theorem d27_7 : okD (quietOf prog) r27_7 = true := by kernel_rfl
theorem x27_7 {lo : Nat} {E : Env} {T : Tab} {live : List Nat} : exec prog lo (.reg true r27_7 live) E T = regK live (runOps (acall prog) lo q27_7 E T) := ex_regD d27_7
theorem d31_11 : okD (quietOf prog) r31_11 = true := by kernel_rfl
theorem x31_11 {lo : Nat} {E : Env} {T : Tab} {live : List Nat} : exec prog lo (.reg true r31_11 live) E T = regK live (runOps (acall prog) lo q31_11 E T) := ex_regD d31_11
theorem d32_7 : okD (quietOf prog) r32_7 = true := by kernel_rfl
theorem x32_7 {lo : Nat} {E : Env} {T : Tab} {live : List Nat} : exec prog lo (.reg true r32_7 live) E T = regK live (runOps (acall prog) lo q32_7 E T) := ex_regD d32_7
theorem d33_7 : okD (quietOf prog) r33_7 = true := by kernel_rfl
theorem x33_7 {lo : Nat} {E : Env} {T : Tab} {live : List Nat} : exec prog lo (.reg true r33_7 live) E T = regK live (runOps (acall prog) lo q33_7 E T) := ex_regD d33_7
theorem d36_3 : okD (quietOf prog) r36_3 = true := by kernel_rfl
theorem x36_3 {lo : Nat} {E : Env} {T : Tab} {live : List Nat} : exec prog lo (.reg true r36_3 live) E T = regK live (runOps (acall prog) lo q36_3 E T) := ex_regD d36_3
theorem d38_4 : okD (quietOf prog) r38_4 = true := by kernel_rfl
theorem x38_4 {lo : Nat} {E : Env} {T : Tab} {live : List Nat} : exec prog lo (.reg true r38_4 live) E T = regK live (runOps (acall prog) lo q38_4 E T) := ex_regD d38_4
theorem d42_4 : okD (quietOf prog) r42_4 = true := by kernel_rfl
theorem x42_4 {lo : Nat} {E : Env} {T : Tab} {live : List Nat} : exec prog lo (.reg true r42_4 live) E T = regK live (runOps (acall prog) lo q42_4 E T) := ex_regD d42_4
theorem d44_3 : okD (quietOf prog) r44_3 = true := by kernel_rfl
theorem x44_3 {lo : Nat} {E : Env} {T : Tab} {live : List Nat} : exec prog lo (.reg true r44_3 live) E T = regK live (runOps (acall prog) lo q44_3 E T) := ex_regD d44_3
theorem d51_10 : okD (quietOf prog) r51_10 = true := by kernel_rfl
theorem x51_10 {lo : Nat} {E : Env} {T : Tab} {live : List Nat} : exec prog lo (.reg true r51_10 live) E T = regK live (runOps (acall prog) lo q51_10 E T) := ex_regD d51_10
theorem d51_22 : okD (quietOf prog) r51_22 = true := by kernel_rfl
theorem x51_22 {lo : Nat} {E : Env} {T : Tab} {live : List Nat} : exec prog lo (.reg true r51_22 live) E T = regK live (runOps (acall prog) lo q51_22 E T) := ex_regD d51_22
theorem d52_16 : okD (quietOf prog) r52_16 = true := by kernel_rfl
theorem x52_16 {lo : Nat} {E : Env} {T : Tab} {live : List Nat} : exec prog lo (.reg true r52_16 live) E T = regK live (runOps (acall prog) lo q52_16 E T) := ex_regD d52_16
theorem d52_10 : okD (quietOf prog) r52_10 = true := by kernel_rfl
theorem x52_10 {lo : Nat} {E : Env} {T : Tab} {live : List Nat} : exec prog lo (.reg true r52_10 live) E T = regK live (runOps (acall prog) lo q52_10 E T) := ex_regD d52_10
theorem d69_9 : okD (quietOf prog) r69_9 = true := by kernel_rfl
theorem x69_9 {lo : Nat} {E : Env} {T : Tab} {live : List Nat} : exec prog lo (.reg true r69_9 live) E T = regK live (runOps (acall prog) lo q69_9 E T) := ex_regD d69_9
theorem d70_5 : okD (quietOf prog) r70_5 = true := by kernel_rfl
theorem x70_5 {lo : Nat} {E : Env} {T : Tab} {live : List Nat} : exec prog lo (.reg true r70_5 live) E T = regK live (runOps (acall prog) lo q70_5 E T) := ex_regD d70_5
theorem d72_32 : okD (quietOf prog) r72_32 = true := by kernel_rfl
theorem x72_32 {lo : Nat} {E : Env} {T : Tab} {live : List Nat} : exec prog lo (.reg true r72_32 live) E T = regK live (runOps (acall prog) lo q72_32 E T) := ex_regD d72_32
theorem d76_5 : okD (quietOf prog) r76_5 = true := by kernel_rfl
theorem x76_5 {lo : Nat} {E : Env} {T : Tab} {live : List Nat} : exec prog lo (.reg true r76_5 live) E T = regK live (runOps (acall prog) lo q76_5 E T) := ex_regD d76_5
theorem d77_4 : okD (quietOf prog) r77_4 = true := by kernel_rfl
theorem x77_4 {lo : Nat} {E : Env} {T : Tab} {live : List Nat} : exec prog lo (.reg true r77_4 live) E T = regK live (runOps (acall prog) lo q77_4 E T) := ex_regD d77_4
theorem d80_23 : okD (quietOf prog) r80_23 = true := by kernel_rfl
theorem x80_23 {lo : Nat} {E : Env} {T : Tab} {live : List Nat} : exec prog lo (.reg true r80_23 live) E T = regK live (runOps (acall prog) lo q80_23 E T) := ex_regD d80_23
theorem d85_5 : okD (quietOf prog) r85_5 = true := by kernel_rfl
theorem x85_5 {lo : Nat} {E : Env} {T : Tab} {live : List Nat} : exec prog lo (.reg true r85_5 live) E T = regK live (runOps (acall prog) lo q85_5 E T) := ex_regD d85_5
theorem d93_11 : okD (quietOf prog) r93_11 = true := by kernel_rfl
theorem x93_11 {lo : Nat} {E : Env} {T : Tab} {live : List Nat} : exec prog lo (.reg true r93_11 live) E T = regK live (runOps (acall prog) lo q93_11 E T) := ex_regD d93_11
theorem d96_7 : okD (quietOf prog) r96_7 = true := by kernel_rfl
theorem x96_7 {lo : Nat} {E : Env} {T : Tab} {live : List Nat} : exec prog lo (.reg true r96_7 live) E T = regK live (runOps (acall prog) lo q96_7 E T) := ex_regD d96_7
theorem d98_9 : okD (quietOf prog) r98_9 = true := by kernel_rfl
theorem x98_9 {lo : Nat} {E : Env} {T : Tab} {live : List Nat} : exec prog lo (.reg true r98_9 live) E T = regK live (runOps (acall prog) lo q98_9 E T) := ex_regD d98_9
theorem d103_2 : okD (quietOf prog) r103_2 = true := by kernel_rfl
theorem x103_2 {lo : Nat} {E : Env} {T : Tab} {live : List Nat} : exec prog lo (.reg true r103_2 live) E T = regK live (runOps (acall prog) lo q103_2 E T) := ex_regD d103_2
theorem d106_2 : okD (quietOf prog) r106_2 = true := by kernel_rfl
theorem x106_2 {lo : Nat} {E : Env} {T : Tab} {live : List Nat} : exec prog lo (.reg true r106_2 live) E T = regK live (runOps (acall prog) lo q106_2 E T) := ex_regD d106_2
theorem d106_3 : okD (quietOf prog) r106_3 = true := by kernel_rfl
theorem x106_3 {lo : Nat} {E : Env} {T : Tab} {live : List Nat} : exec prog lo (.reg true r106_3 live) E T = regK live (runOps (acall prog) lo q106_3 E T) := ex_regD d106_3
theorem d117_4 : okD (quietOf prog) r117_4 = true := by kernel_rfl
theorem x117_4 {lo : Nat} {E : Env} {T : Tab} {live : List Nat} : exec prog lo (.reg true r117_4 live) E T = regK live (runOps (acall prog) lo q117_4 E T) := ex_regD d117_4
theorem d132_2 : okD (quietOf prog) r132_2 = true := by kernel_rfl
theorem x132_2 {lo : Nat} {E : Env} {T : Tab} {live : List Nat} : exec prog lo (.reg true r132_2 live) E T = regK live (runOps (acall prog) lo q132_2 E T) := ex_regD d132_2
theorem d134_4 : okD (quietOf prog) r134_4 = true := by kernel_rfl
theorem x134_4 {lo : Nat} {E : Env} {T : Tab} {live : List Nat} : exec prog lo (.reg true r134_4 live) E T = regK live (runOps (acall prog) lo q134_4 E T) := ex_regD d134_4
theorem d134_5 : okD (quietOf prog) r134_5 = true := by kernel_rfl
theorem x134_5 {lo : Nat} {E : Env} {T : Tab} {live : List Nat} : exec prog lo (.reg true r134_5 live) E T = regK live (runOps (acall prog) lo q134_5 E T) := ex_regD d134_5
theorem d135_24 : okD (quietOf prog) r135_24 = true := by kernel_rfl
theorem x135_24 {lo : Nat} {E : Env} {T : Tab} {live : List Nat} : exec prog lo (.reg true r135_24 live) E T = regK live (runOps (acall prog) lo q135_24 E T) := ex_regD d135_24
theorem d138_3 : okD (quietOf prog) r138_3 = true := by kernel_rfl
theorem x138_3 {lo : Nat} {E : Env} {T : Tab} {live : List Nat} : exec prog lo (.reg true r138_3 live) E T = regK live (runOps (acall prog) lo q138_3 E T) := ex_regD d138_3
theorem d143_3 : okD (quietOf prog) r143_3 = true := by kernel_rfl
theorem x143_3 {lo : Nat} {E : Env} {T : Tab} {live : List Nat} : exec prog lo (.reg true r143_3 live) E T = regK live (runOps (acall prog) lo q143_3 E T) := ex_regD d143_3
theorem d144_11 : okD (quietOf prog) r144_11 = true := by kernel_rfl
theorem x144_11 {lo : Nat} {E : Env} {T : Tab} {live : List Nat} : exec prog lo (.reg true r144_11 live) E T = regK live (runOps (acall prog) lo q144_11 E T) := ex_regD d144_11
theorem d144_12 : okD (quietOf prog) r144_12 = true := by kernel_rfl
theorem x144_12 {lo : Nat} {E : Env} {T : Tab} {live : List Nat} : exec prog lo (.reg true r144_12 live) E T = regK live (runOps (acall prog) lo q144_12 E T) := ex_regD d144_12
theorem d145_10 : okD (quietOf prog) r145_10 = true := by kernel_rfl
theorem x145_10 {lo : Nat} {E : Env} {T : Tab} {live : List Nat} : exec prog lo (.reg true r145_10 live) E T = regK live (runOps (acall prog) lo q145_10 E T) := ex_regD d145_10
theorem d147_10 : okD (quietOf prog) r147_10 = true := by kernel_rfl
theorem x147_10 {lo : Nat} {E : Env} {T : Tab} {live : List Nat} : exec prog lo (.reg true r147_10 live) E T = regK live (runOps (acall prog) lo q147_10 E T) := ex_regD d147_10
theorem d149_5 : okD (quietOf prog) r149_5 = true := by kernel_rfl
theorem x149_5 {lo : Nat} {E : Env} {T : Tab} {live : List Nat} : exec prog lo (.reg true r149_5 live) E T = regK live (runOps (acall prog) lo q149_5 E T) := ex_regD d149_5
theorem d150_3 : okD (quietOf prog) r150_3 = true := by kernel_rfl
theorem x150_3 {lo : Nat} {E : Env} {T : Tab} {live : List Nat} : exec prog lo (.reg true r150_3 live) E T = regK live (runOps (acall prog) lo q150_3 E T) := ex_regD d150_3
theorem d153_25 : okD (quietOf prog) r153_25 = true := by kernel_rfl
theorem x153_25 {lo : Nat} {E : Env} {T : Tab} {live : List Nat} : exec prog lo (.reg true r153_25 live) E T = regK live (runOps (acall prog) lo q153_25 E T) := ex_regD d153_25
theorem d153_26 : okD (quietOf prog) r153_26 = true := by kernel_rfl
theorem x153_26 {lo : Nat} {E : Env} {T : Tab} {live : List Nat} : exec prog lo (.reg true r153_26 live) E T = regK live (runOps (acall prog) lo q153_26 E T) := ex_regD d153_26
theorem d153_32 : okD (quietOf prog) r153_32 = true := by kernel_rfl
theorem x153_32 {lo : Nat} {E : Env} {T : Tab} {live : List Nat} : exec prog lo (.reg true r153_32 live) E T = regK live (runOps (acall prog) lo q153_32 E T) := ex_regD d153_32
theorem d155_2 : okD (quietOf prog) r155_2 = true := by kernel_rfl
theorem x155_2 {lo : Nat} {E : Env} {T : Tab} {live : List Nat} : exec prog lo (.reg true r155_2 live) E T = regK live (runOps (acall prog) lo q155_2 E T) := ex_regD d155_2
theorem d161_15 : okD (quietOf prog) r161_15 = true := by kernel_rfl
theorem x161_15 {lo : Nat} {E : Env} {T : Tab} {live : List Nat} : exec prog lo (.reg true r161_15 live) E T = regK live (runOps (acall prog) lo q161_15 E T) := ex_regD d161_15
theorem d162_1 : okD (quietOf prog) r162_1 = true := by kernel_rfl
theorem x162_1 {lo : Nat} {E : Env} {T : Tab} {live : List Nat} : exec prog lo (.reg true r162_1 live) E T = regK live (runOps (acall prog) lo q162_1 E T) := ex_regD d162_1
theorem d162_3 : okD (quietOf prog) r162_3 = true := by kernel_rfl
theorem x162_3 {lo : Nat} {E : Env} {T : Tab} {live : List Nat} : exec prog lo (.reg true r162_3 live) E T = regK live (runOps (acall prog) lo q162_3 E T) := ex_regD d162_3
theorem d162_4 : okD (quietOf prog) r162_4 = true := by kernel_rfl
theorem x162_4 {lo : Nat} {E : Env} {T : Tab} {live : List Nat} : exec prog lo (.reg true r162_4 live) E T = regK live (runOps (acall prog) lo q162_4 E T) := ex_regD d162_4
theorem d162_6 : okD (quietOf prog) r162_6 = true := by kernel_rfl
theorem x162_6 {lo : Nat} {E : Env} {T : Tab} {live : List Nat} : exec prog lo (.reg true r162_6 live) E T = regK live (runOps (acall prog) lo q162_6 E T) := ex_regD d162_6
theorem d164_1 : okD (quietOf prog) r164_1 = true := by kernel_rfl
theorem x164_1 {lo : Nat} {E : Env} {T : Tab} {live : List Nat} : exec prog lo (.reg true r164_1 live) E T = regK live (runOps (acall prog) lo q164_1 E T) := ex_regD d164_1
theorem d166_14 : okD (quietOf prog) r166_14 = true := by kernel_rfl
theorem x166_14 {lo : Nat} {E : Env} {T : Tab} {live : List Nat} : exec prog lo (.reg true r166_14 live) E T = regK live (runOps (acall prog) lo q166_14 E T) := ex_regD d166_14
theorem d167_6 : okD (quietOf prog) r167_6 = true := by kernel_rfl
theorem x167_6 {lo : Nat} {E : Env} {T : Tab} {live : List Nat} : exec prog lo (.reg true r167_6 live) E T = regK live (runOps (acall prog) lo q167_6 E T) := ex_regD d167_6
theorem d167_7 : okD (quietOf prog) r167_7 = true := by kernel_rfl
theorem x167_7 {lo : Nat} {E : Env} {T : Tab} {live : List Nat} : exec prog lo (.reg true r167_7 live) E T = regK live (runOps (acall prog) lo q167_7 E T) := ex_regD d167_7
theorem d174_6 : okD (quietOf prog) r174_6 = true := by kernel_rfl
theorem x174_6 {lo : Nat} {E : Env} {T : Tab} {live : List Nat} : exec prog lo (.reg true r174_6 live) E T = regK live (runOps (acall prog) lo q174_6 E T) := ex_regD d174_6
theorem d174_7 : okD (quietOf prog) r174_7 = true := by kernel_rfl
theorem x174_7 {lo : Nat} {E : Env} {T : Tab} {live : List Nat} : exec prog lo (.reg true r174_7 live) E T = regK live (runOps (acall prog) lo q174_7 E T) := ex_regD d174_7
theorem d174_3 : okD (quietOf prog) r174_3 = true := by kernel_rfl
theorem x174_3 {lo : Nat} {E : Env} {T : Tab} {live : List Nat} : exec prog lo (.reg true r174_3 live) E T = regK live (runOps (acall prog) lo q174_3 E T) := ex_regD d174_3
theorem d177_3 : okD (quietOf prog) r177_3 = true := by kernel_rfl
theorem x177_3 {lo : Nat} {E : Env} {T : Tab} {live : List Nat} : exec prog lo (.reg true r177_3 live) E T = regK live (runOps (acall prog) lo q177_3 E T) := ex_regD d177_3
theorem d182_1 : okD (quietOf prog) r182_1 = true := by kernel_rfl
theorem x182_1 {lo : Nat} {E : Env} {T : Tab} {live : List Nat} : exec prog lo (.reg true r182_1 live) E T = regK live (runOps (acall prog) lo q182_1 E T) := ex_regD d182_1
theorem d182_2 : okD (quietOf prog) r182_2 = true := by kernel_rfl
theorem x182_2 {lo : Nat} {E : Env} {T : Tab} {live : List Nat} : exec prog lo (.reg true r182_2 live) E T = regK live (runOps (acall prog) lo q182_2 E T) := ex_regD d182_2
theorem d182_4 : okD (quietOf prog) r182_4 = true := by kernel_rfl
theorem x182_4 {lo : Nat} {E : Env} {T : Tab} {live : List Nat} : exec prog lo (.reg true r182_4 live) E T = regK live (runOps (acall prog) lo q182_4 E T) := ex_regD d182_4
theorem d182_10 : okD (quietOf prog) r182_10 = true := by kernel_rfl
theorem x182_10 {lo : Nat} {E : Env} {T : Tab} {live : List Nat} : exec prog lo (.reg true r182_10 live) E T = regK live (runOps (acall prog) lo q182_10 E T) := ex_regD d182_10
theorem d183_2 : okD (quietOf prog) r183_2 = true := by kernel_rfl
theorem x183_2 {lo : Nat} {E : Env} {T : Tab} {live : List Nat} : exec prog lo (.reg true r183_2 live) E T = regK live (runOps (acall prog) lo q183_2 E T) := ex_regD d183_2
theorem d184_3 : okD (quietOf prog) r184_3 = true := by kernel_rfl
theorem x184_3 {lo : Nat} {E : Env} {T : Tab} {live : List Nat} : exec prog lo (.reg true r184_3 live) E T = regK live (runOps (acall prog) lo q184_3 E T) := ex_regD d184_3
theorem d190_13 : okD (quietOf prog) r190_13 = true := by kernel_rfl
theorem x190_13 {lo : Nat} {E : Env} {T : Tab} {live : List Nat} : exec prog lo (.reg true r190_13 live) E T = regK live (runOps (acall prog) lo q190_13 E T) := ex_regD d190_13
theorem d198_2 : okD (quietOf prog) r198_2 = true := by kernel_rfl
theorem x198_2 {lo : Nat} {E : Env} {T : Tab} {live : List Nat} : exec prog lo (.reg true r198_2 live) E T = regK live (runOps (acall prog) lo q198_2 E T) := ex_regD d198_2
theorem d199_7 : okD (quietOf prog) r199_7 = true := by kernel_rfl
theorem x199_7 {lo : Nat} {E : Env} {T : Tab} {live : List Nat} : exec prog lo (.reg true r199_7 live) E T = regK live (runOps (acall prog) lo q199_7 E T) := ex_regD d199_7
theorem d199_8 : okD (quietOf prog) r199_8 = true := by kernel_rfl
theorem x199_8 {lo : Nat} {E : Env} {T : Tab} {live : List Nat} : exec prog lo (.reg true r199_8 live) E T = regK live (runOps (acall prog) lo q199_8 E T) := ex_regD d199_8
theorem d199_1 : okD (quietOf prog) r199_1 = true := by kernel_rfl
theorem x199_1 {lo : Nat} {E : Env} {T : Tab} {live : List Nat} : exec prog lo (.reg true r199_1 live) E T = regK live (runOps (acall prog) lo q199_1 E T) := ex_regD d199_1
theorem d199_3 : okD (quietOf prog) r199_3 = true := by kernel_rfl
theorem x199_3 {lo : Nat} {E : Env} {T : Tab} {live : List Nat} : exec prog lo (.reg true r199_3 live) E T = regK live (runOps (acall prog) lo q199_3 E T) := ex_regD d199_3
theorem d199_4 : okD (quietOf prog) r199_4 = true := by kernel_rfl
theorem x199_4 {lo : Nat} {E : Env} {T : Tab} {live : List Nat} : exec prog lo (.reg true r199_4 live) E T = regK live (runOps (acall prog) lo q199_4 E T) := ex_regD d199_4
theorem d199_5 : okD (quietOf prog) r199_5 = true := by kernel_rfl
theorem x199_5 {lo : Nat} {E : Env} {T : Tab} {live : List Nat} : exec prog lo (.reg true r199_5 live) E T = regK live (runOps (acall prog) lo q199_5 E T) := ex_regD d199_5
theorem d203_4 : okD (quietOf prog) r203_4 = true := by kernel_rfl
theorem x203_4 {lo : Nat} {E : Env} {T : Tab} {live : List Nat} : exec prog lo (.reg true r203_4 live) E T = regK live (runOps (acall prog) lo q203_4 E T) := ex_regD d203_4
theorem d223_2 : okD (quietOf prog) r223_2 = true := by kernel_rfl
theorem x223_2 {lo : Nat} {E : Env} {T : Tab} {live : List Nat} : exec prog lo (.reg true r223_2 live) E T = regK live (runOps (acall prog) lo q223_2 E T) := ex_regD d223_2
theorem d224_1 : okD (quietOf prog) r224_1 = true := by kernel_rfl
theorem x224_1 {lo : Nat} {E : Env} {T : Tab} {live : List Nat} : exec prog lo (.reg true r224_1 live) E T = regK live (runOps (acall prog) lo q224_1 E T) := ex_regD d224_1
theorem d228_2 : okD (quietOf prog) r228_2 = true := by kernel_rfl
theorem x228_2 {lo : Nat} {E : Env} {T : Tab} {live : List Nat} : exec prog lo (.reg true r228_2 live) E T = regK live (runOps (acall prog) lo q228_2 E T) := ex_regD d228_2
theorem d228_3 : okD (quietOf prog) r228_3 = true := by kernel_rfl
theorem x228_3 {lo : Nat} {E : Env} {T : Tab} {live : List Nat} : exec prog lo (.reg true r228_3 live) E T = regK live (runOps (acall prog) lo q228_3 E T) := ex_regD d228_3
theorem d228_4 : okD (quietOf prog) r228_4 = true := by kernel_rfl
theorem x228_4 {lo : Nat} {E : Env} {T : Tab} {live : List Nat} : exec prog lo (.reg true r228_4 live) E T = regK live (runOps (acall prog) lo q228_4 E T) := ex_regD d228_4
theorem d229_1 : okD (quietOf prog) r229_1 = true := by kernel_rfl
theorem x229_1 {lo : Nat} {E : Env} {T : Tab} {live : List Nat} : exec prog lo (.reg true r229_1 live) E T = regK live (runOps (acall prog) lo q229_1 E T) := ex_regD d229_1
theorem d231_3 : okD (quietOf prog) r231_3 = true := by kernel_rfl
theorem x231_3 {lo : Nat} {E : Env} {T : Tab} {live : List Nat} : exec prog lo (.reg true r231_3 live) E T = regK live (runOps (acall prog) lo q231_3 E T) := ex_regD d231_3
end Go.Proofs.Ytlilfiekkaolkaa.Am
