/- What the types of the seat's program come to. (Printed by gxfacts.py.) -/
import Derived.Test.YtchpchjcghongaaGreatGz7
import Derived.Test.YtchpchjcghongaaGreatProg
import Derived.KernelRfl
set_option linter.all false
set_option linter.unusedVariables false
set_option linter.unusedSimpArgs false
set_option linter.unnecessarySimpa false
set_option linter.deprecated false
section
set_option autoImplicit false
namespace Gx
open Go Go.Proofs
@[go_sem] theorem ty_0_1 : tsz Tryz.prog 0 = some 1 := by kernel_rfl
@[go_sem] theorem ty_0_2 : tbytes Tryz.prog 0 = some 0 := by kernel_rfl
@[go_sem] theorem ty_0_3 : tagg Tryz.prog 0 = some false := by kernel_rfl
@[go_sem] theorem ty_0_4 : blksz Tryz.prog 0 = some 1 := by kernel_rfl
@[go_sem] theorem ty_1_5 : tsz Tryz.prog 1 = some 1 := by kernel_rfl
@[go_sem] theorem ty_1_6 : tbytes Tryz.prog 1 = some 8 := by kernel_rfl
@[go_sem] theorem ty_1_7 : tzero Tryz.prog 1 = some [.nilFunc] := by kernel_rfl
@[go_sem] theorem ty_1_8 : tagg Tryz.prog 1 = some false := by kernel_rfl
@[go_sem] theorem ty_1_9 : blksz Tryz.prog 1 = some 1 := by kernel_rfl
@[go_sem] theorem ty_2_10 : tsz Tryz.prog 2 = some 1 := by kernel_rfl
@[go_sem] theorem ty_2_11 : tbytes Tryz.prog 2 = some 8 := by kernel_rfl
@[go_sem] theorem ty_2_12 : tzero Tryz.prog 2 = some [.int .i64 0] := by kernel_rfl
@[go_sem] theorem ty_2_13 : tagg Tryz.prog 2 = some false := by kernel_rfl
@[go_sem] theorem ty_2_14 : tint Tryz.prog 2 = some .i64 := by kernel_rfl
@[go_sem] theorem ty_2_15 : blksz Tryz.prog 2 = some 1 := by kernel_rfl
@[go_sem] theorem ty_3_16 : tsz Tryz.prog 3 = some 1 := by kernel_rfl
@[go_sem] theorem ty_3_17 : tbytes Tryz.prog 3 = some 8 := by kernel_rfl
@[go_sem] theorem ty_3_18 : tzero Tryz.prog 3 = some [.int .i64 0] := by kernel_rfl
@[go_sem] theorem ty_3_19 : tagg Tryz.prog 3 = some false := by kernel_rfl
@[go_sem] theorem ty_3_20 : tint Tryz.prog 3 = some .i64 := by kernel_rfl
@[go_sem] theorem ty_3_21 : blksz Tryz.prog 3 = some 1 := by kernel_rfl
@[go_sem] theorem ty_4_22 : tsz Tryz.prog 4 = some 1 := by kernel_rfl
@[go_sem] theorem ty_4_23 : tbytes Tryz.prog 4 = some 1 := by kernel_rfl
@[go_sem] theorem ty_4_24 : tzero Tryz.prog 4 = some [.bool false] := by kernel_rfl
@[go_sem] theorem ty_4_25 : tagg Tryz.prog 4 = some false := by kernel_rfl
@[go_sem] theorem ty_4_26 : tbool Tryz.prog 4 = true := by kernel_rfl
@[go_sem] theorem ty_4_27 : blksz Tryz.prog 4 = some 1 := by kernel_rfl
@[go_sem] theorem ty_5_28 : tsz Tryz.prog 5 = some 1 := by kernel_rfl
@[go_sem] theorem ty_5_29 : tbytes Tryz.prog 5 = some 1 := by kernel_rfl
@[go_sem] theorem ty_5_30 : tzero Tryz.prog 5 = some [.int .u8 0] := by kernel_rfl
@[go_sem] theorem ty_5_31 : tagg Tryz.prog 5 = some false := by kernel_rfl
@[go_sem] theorem ty_5_32 : tint Tryz.prog 5 = some .u8 := by kernel_rfl
@[go_sem] theorem ty_5_33 : blksz Tryz.prog 5 = some 1 := by kernel_rfl
@[go_sem] theorem ty_6_34 : tsz Tryz.prog 6 = some 1 := by kernel_rfl
@[go_sem] theorem ty_6_35 : tbytes Tryz.prog 6 = some 1 := by kernel_rfl
@[go_sem] theorem ty_6_36 : tzero Tryz.prog 6 = some [.int .u8 0] := by kernel_rfl
@[go_sem] theorem ty_6_37 : tagg Tryz.prog 6 = some false := by kernel_rfl
@[go_sem] theorem ty_6_38 : tint Tryz.prog 6 = some .u8 := by kernel_rfl
@[go_sem] theorem ty_6_39 : blksz Tryz.prog 6 = some 1 := by kernel_rfl
@[go_sem] theorem ty_7_40 : tsz Tryz.prog 7 = some 4 := by kernel_rfl
@[go_sem] theorem ty_7_41 : tbytes Tryz.prog 7 = some 24 := by kernel_rfl
@[go_sem] theorem ty_7_42 : tzero Tryz.prog 7 = some [.int .i64 0, .int .i64 0, .bool false, .int .u8 0] := by kernel_rfl
@[go_sem] theorem ty_7_43 : tagg Tryz.prog 7 = some true := by kernel_rfl
@[go_sem] theorem ty_7_44 : tarr Tryz.prog 7 = none := by kernel_rfl
@[go_sem] theorem ty_7_45 : blksz Tryz.prog 7 = some 4 := by kernel_rfl
@[go_sem] theorem ty_7_46 : tplaces Tryz.prog 7 = some [(0, 1), (1, 1), (2, 1), (3, 1)] := by kernel_rfl
@[go_sem] theorem ty_7_47 : structK Tryz.prog 7 = some [1, 1, 0, 1] := by kernel_rfl
@[go_sem] theorem ty_7_48 : tfield Tryz.prog 7 0 = some (0, 2) := by kernel_rfl
@[go_sem] theorem ty_7_49 : tfield Tryz.prog 7 1 = some (1, 3) := by kernel_rfl
@[go_sem] theorem ty_7_50 : tfield Tryz.prog 7 2 = some (2, 4) := by kernel_rfl
@[go_sem] theorem ty_7_51 : tfield Tryz.prog 7 3 = some (3, 6) := by kernel_rfl
@[go_sem] theorem ty_8_52 : tsz Tryz.prog 8 = some 4 := by kernel_rfl
@[go_sem] theorem ty_8_53 : tbytes Tryz.prog 8 = some 24 := by kernel_rfl
@[go_sem] theorem ty_8_54 : tzero Tryz.prog 8 = some [.int .i64 0, .int .i64 0, .bool false, .int .u8 0] := by kernel_rfl
@[go_sem] theorem ty_8_55 : tagg Tryz.prog 8 = some true := by kernel_rfl
@[go_sem] theorem ty_8_56 : tarr Tryz.prog 8 = none := by kernel_rfl
@[go_sem] theorem ty_8_57 : blksz Tryz.prog 8 = some 4 := by kernel_rfl
@[go_sem] theorem ty_8_58 : tplaces Tryz.prog 8 = some [(0, 1), (1, 1), (2, 1), (3, 1)] := by kernel_rfl
@[go_sem] theorem ty_8_59 : structK Tryz.prog 8 = some [1, 1, 0, 1] := by kernel_rfl
@[go_sem] theorem ty_8_60 : tfield Tryz.prog 8 0 = some (0, 2) := by kernel_rfl
@[go_sem] theorem ty_8_61 : tfield Tryz.prog 8 1 = some (1, 3) := by kernel_rfl
@[go_sem] theorem ty_8_62 : tfield Tryz.prog 8 2 = some (2, 4) := by kernel_rfl
@[go_sem] theorem ty_8_63 : tfield Tryz.prog 8 3 = some (3, 6) := by kernel_rfl
@[go_sem] theorem ty_9_64 : tsz Tryz.prog 9 = some 1 := by kernel_rfl
@[go_sem] theorem ty_9_65 : tbytes Tryz.prog 9 = some 16 := by kernel_rfl
@[go_sem] theorem ty_9_66 : tzero Tryz.prog 9 = some [.string ByteArray.empty] := by kernel_rfl
@[go_sem] theorem ty_9_67 : tagg Tryz.prog 9 = some false := by kernel_rfl
@[go_sem] theorem ty_9_68 : tstr Tryz.prog 9 = true := by kernel_rfl
@[go_sem] theorem ty_9_69 : blksz Tryz.prog 9 = some 1 := by kernel_rfl
@[go_sem] theorem ty_10_70 : tsz Tryz.prog 10 = some 1 := by kernel_rfl
@[go_sem] theorem ty_10_71 : tbytes Tryz.prog 10 = some 16 := by kernel_rfl
@[go_sem] theorem ty_10_72 : tzero Tryz.prog 10 = some [.string ByteArray.empty] := by kernel_rfl
@[go_sem] theorem ty_10_73 : tagg Tryz.prog 10 = some false := by kernel_rfl
@[go_sem] theorem ty_10_74 : tstr Tryz.prog 10 = true := by kernel_rfl
@[go_sem] theorem ty_10_75 : blksz Tryz.prog 10 = some 1 := by kernel_rfl
@[go_sem] theorem ty_11_76 : tsz Tryz.prog 11 = some 1 := by kernel_rfl
@[go_sem] theorem ty_11_77 : tbytes Tryz.prog 11 = some 16 := by kernel_rfl
@[go_sem] theorem ty_11_78 : tzero Tryz.prog 11 = some [.string ByteArray.empty] := by kernel_rfl
@[go_sem] theorem ty_11_79 : tagg Tryz.prog 11 = some false := by kernel_rfl
@[go_sem] theorem ty_11_80 : tstr Tryz.prog 11 = true := by kernel_rfl
@[go_sem] theorem ty_11_81 : blksz Tryz.prog 11 = some 1 := by kernel_rfl
@[go_sem] theorem ty_12_82 : tsz Tryz.prog 12 = some 1 := by kernel_rfl
@[go_sem] theorem ty_12_83 : tbytes Tryz.prog 12 = some 8 := by kernel_rfl
@[go_sem] theorem ty_12_84 : tzero Tryz.prog 12 = some [.int .u64 0] := by kernel_rfl
@[go_sem] theorem ty_12_85 : tagg Tryz.prog 12 = some false := by kernel_rfl
@[go_sem] theorem ty_12_86 : tint Tryz.prog 12 = some .u64 := by kernel_rfl
@[go_sem] theorem ty_12_87 : blksz Tryz.prog 12 = some 1 := by kernel_rfl
@[go_sem] theorem ty_13_88 : tsz Tryz.prog 13 = some 2 := by kernel_rfl
@[go_sem] theorem ty_13_89 : tbytes Tryz.prog 13 = some 24 := by kernel_rfl
@[go_sem] theorem ty_13_90 : tzero Tryz.prog 13 = some [.string ByteArray.empty, .int .u64 0] := by kernel_rfl
@[go_sem] theorem ty_13_91 : tagg Tryz.prog 13 = some true := by kernel_rfl
@[go_sem] theorem ty_13_92 : tarr Tryz.prog 13 = none := by kernel_rfl
@[go_sem] theorem ty_13_93 : blksz Tryz.prog 13 = some 2 := by kernel_rfl
@[go_sem] theorem ty_13_94 : tplaces Tryz.prog 13 = some [(0, 1), (1, 1)] := by kernel_rfl
@[go_sem] theorem ty_13_95 : tfield Tryz.prog 13 0 = some (0, 9) := by kernel_rfl
@[go_sem] theorem ty_13_96 : tfield Tryz.prog 13 1 = some (1, 12) := by kernel_rfl
@[go_sem] theorem ty_14_97 : tsz Tryz.prog 14 = some 2 := by kernel_rfl
@[go_sem] theorem ty_14_98 : tbytes Tryz.prog 14 = some 24 := by kernel_rfl
@[go_sem] theorem ty_14_99 : tzero Tryz.prog 14 = some [.string ByteArray.empty, .int .u64 0] := by kernel_rfl
@[go_sem] theorem ty_14_100 : tagg Tryz.prog 14 = some true := by kernel_rfl
@[go_sem] theorem ty_14_101 : tarr Tryz.prog 14 = none := by kernel_rfl
@[go_sem] theorem ty_14_102 : blksz Tryz.prog 14 = some 2 := by kernel_rfl
@[go_sem] theorem ty_14_103 : tplaces Tryz.prog 14 = some [(0, 1), (1, 1)] := by kernel_rfl
@[go_sem] theorem ty_14_104 : tfield Tryz.prog 14 0 = some (0, 9) := by kernel_rfl
@[go_sem] theorem ty_14_105 : tfield Tryz.prog 14 1 = some (1, 12) := by kernel_rfl
@[go_sem] theorem ty_15_106 : tsz Tryz.prog 15 = some 1 := by kernel_rfl
@[go_sem] theorem ty_15_107 : tbytes Tryz.prog 15 = some 8 := by kernel_rfl
@[go_sem] theorem ty_15_108 : tzero Tryz.prog 15 = some [.pointer none] := by kernel_rfl
@[go_sem] theorem ty_15_109 : tagg Tryz.prog 15 = some false := by kernel_rfl
@[go_sem] theorem ty_15_110 : blksz Tryz.prog 15 = some 1 := by kernel_rfl
@[go_sem] theorem ty_16_111 : tsz Tryz.prog 16 = some 1 := by kernel_rfl
@[go_sem] theorem ty_16_112 : tbytes Tryz.prog 16 = some 8 := by kernel_rfl
@[go_sem] theorem ty_16_113 : tzero Tryz.prog 16 = some [.pointer none] := by kernel_rfl
@[go_sem] theorem ty_16_114 : tagg Tryz.prog 16 = some false := by kernel_rfl
@[go_sem] theorem ty_16_115 : blksz Tryz.prog 16 = some 1 := by kernel_rfl
@[go_sem] theorem ty_17_116 : tsz Tryz.prog 17 = some 1 := by kernel_rfl
@[go_sem] theorem ty_17_117 : tbytes Tryz.prog 17 = some 8 := by kernel_rfl
@[go_sem] theorem ty_17_118 : tzero Tryz.prog 17 = some [.pointer none] := by kernel_rfl
@[go_sem] theorem ty_17_119 : tagg Tryz.prog 17 = some false := by kernel_rfl
@[go_sem] theorem ty_17_120 : blksz Tryz.prog 17 = some 1 := by kernel_rfl
@[go_sem] theorem ty_18_121 : tsz Tryz.prog 18 = some 1 := by kernel_rfl
@[go_sem] theorem ty_18_122 : tbytes Tryz.prog 18 = some 8 := by kernel_rfl
@[go_sem] theorem ty_18_123 : tzero Tryz.prog 18 = some [.pointer none] := by kernel_rfl
@[go_sem] theorem ty_18_124 : tagg Tryz.prog 18 = some true := by kernel_rfl
@[go_sem] theorem ty_18_125 : tarr Tryz.prog 18 = none := by kernel_rfl
@[go_sem] theorem ty_18_126 : blksz Tryz.prog 18 = some 1 := by kernel_rfl
@[go_sem] theorem ty_18_127 : tplaces Tryz.prog 18 = some [(0, 1)] := by kernel_rfl
@[go_sem] theorem ty_18_128 : tfield Tryz.prog 18 0 = some (0, 17) := by kernel_rfl
@[go_sem] theorem ty_19_129 : tsz Tryz.prog 19 = some 1 := by kernel_rfl
@[go_sem] theorem ty_19_130 : tbytes Tryz.prog 19 = some 8 := by kernel_rfl
@[go_sem] theorem ty_19_131 : tzero Tryz.prog 19 = some [.pointer none] := by kernel_rfl
@[go_sem] theorem ty_19_132 : tagg Tryz.prog 19 = some true := by kernel_rfl
@[go_sem] theorem ty_19_133 : tarr Tryz.prog 19 = none := by kernel_rfl
@[go_sem] theorem ty_19_134 : blksz Tryz.prog 19 = some 1 := by kernel_rfl
@[go_sem] theorem ty_19_135 : tplaces Tryz.prog 19 = some [(0, 1)] := by kernel_rfl
@[go_sem] theorem ty_19_136 : tfield Tryz.prog 19 0 = some (0, 17) := by kernel_rfl
@[go_sem] theorem ty_20_137 : tsz Tryz.prog 20 = some 1 := by kernel_rfl
@[go_sem] theorem ty_20_138 : tbytes Tryz.prog 20 = some 16 := by kernel_rfl
@[go_sem] theorem ty_20_139 : tzero Tryz.prog 20 = some [.nilIface] := by kernel_rfl
@[go_sem] theorem ty_20_140 : tagg Tryz.prog 20 = some false := by kernel_rfl
@[go_sem] theorem ty_20_141 : blksz Tryz.prog 20 = some 1 := by kernel_rfl
@[go_sem] theorem ty_21_142 : tsz Tryz.prog 21 = some 1 := by kernel_rfl
@[go_sem] theorem ty_21_143 : tbytes Tryz.prog 21 = some 4 := by kernel_rfl
@[go_sem] theorem ty_21_144 : tzero Tryz.prog 21 = some [.int .i32 0] := by kernel_rfl
@[go_sem] theorem ty_21_145 : tagg Tryz.prog 21 = some false := by kernel_rfl
@[go_sem] theorem ty_21_146 : tint Tryz.prog 21 = some .i32 := by kernel_rfl
@[go_sem] theorem ty_21_147 : blksz Tryz.prog 21 = some 1 := by kernel_rfl
@[go_sem] theorem ty_22_148 : tsz Tryz.prog 22 = some 1 := by kernel_rfl
@[go_sem] theorem ty_22_149 : tbytes Tryz.prog 22 = some 24 := by kernel_rfl
@[go_sem] theorem ty_22_150 : tzero Tryz.prog 22 = some [.slice none 0 0] := by kernel_rfl
@[go_sem] theorem ty_22_151 : tagg Tryz.prog 22 = some false := by kernel_rfl
@[go_sem] theorem ty_22_152 : telem Tryz.prog 22 = some 28 := by kernel_rfl
@[go_sem] theorem ty_22_153 : tstr Tryz.prog 22 = false := by kernel_rfl
@[go_sem] theorem ty_22_154 : blksz Tryz.prog 22 = some 1 := by kernel_rfl
@[go_sem] theorem ty_23_155 : tsz Tryz.prog 23 = some 1 := by kernel_rfl
@[go_sem] theorem ty_23_156 : tbytes Tryz.prog 23 = some 24 := by kernel_rfl
@[go_sem] theorem ty_23_157 : tzero Tryz.prog 23 = some [.slice none 0 0] := by kernel_rfl
@[go_sem] theorem ty_23_158 : tagg Tryz.prog 23 = some false := by kernel_rfl
@[go_sem] theorem ty_23_159 : telem Tryz.prog 23 = some 28 := by kernel_rfl
@[go_sem] theorem ty_23_160 : tstr Tryz.prog 23 = false := by kernel_rfl
@[go_sem] theorem ty_23_161 : blksz Tryz.prog 23 = some 1 := by kernel_rfl
@[go_sem] theorem ty_24_162 : tsz Tryz.prog 24 = some 1 := by kernel_rfl
@[go_sem] theorem ty_24_163 : tbytes Tryz.prog 24 = some 8 := by kernel_rfl
@[go_sem] theorem ty_24_164 : tzero Tryz.prog 24 = some [.nilFunc] := by kernel_rfl
@[go_sem] theorem ty_24_165 : tagg Tryz.prog 24 = some false := by kernel_rfl
@[go_sem] theorem ty_24_166 : blksz Tryz.prog 24 = some 1 := by kernel_rfl
@[go_sem] theorem ty_25_167 : tsz Tryz.prog 25 = some 1 := by kernel_rfl
@[go_sem] theorem ty_25_168 : tbytes Tryz.prog 25 = some 8 := by kernel_rfl
@[go_sem] theorem ty_25_169 : tzero Tryz.prog 25 = some [.nilFunc] := by kernel_rfl
@[go_sem] theorem ty_25_170 : tagg Tryz.prog 25 = some false := by kernel_rfl
@[go_sem] theorem ty_25_171 : blksz Tryz.prog 25 = some 1 := by kernel_rfl
@[go_sem] theorem ty_26_172 : tsz Tryz.prog 26 = some 1 := by kernel_rfl
@[go_sem] theorem ty_26_173 : tbytes Tryz.prog 26 = some 16 := by kernel_rfl
@[go_sem] theorem ty_26_174 : tzero Tryz.prog 26 = some [.string ByteArray.empty] := by kernel_rfl
@[go_sem] theorem ty_26_175 : tagg Tryz.prog 26 = some false := by kernel_rfl
@[go_sem] theorem ty_26_176 : tstr Tryz.prog 26 = true := by kernel_rfl
@[go_sem] theorem ty_26_177 : blksz Tryz.prog 26 = some 1 := by kernel_rfl
@[go_sem] theorem ty_27_178 : tsz Tryz.prog 27 = some 2 := by kernel_rfl
@[go_sem] theorem ty_27_179 : tbytes Tryz.prog 27 = some 24 := by kernel_rfl
@[go_sem] theorem ty_27_180 : tzero Tryz.prog 27 = some [.bool false, .string ByteArray.empty] := by kernel_rfl
@[go_sem] theorem ty_27_181 : tagg Tryz.prog 27 = some true := by kernel_rfl
@[go_sem] theorem ty_27_182 : tarr Tryz.prog 27 = none := by kernel_rfl
@[go_sem] theorem ty_27_183 : blksz Tryz.prog 27 = some 2 := by kernel_rfl
@[go_sem] theorem ty_27_184 : tplaces Tryz.prog 27 = some [(0, 1), (1, 1)] := by kernel_rfl
@[go_sem] theorem ty_27_185 : structK Tryz.prog 27 = some [0, 2] := by kernel_rfl
@[go_sem] theorem ty_27_186 : tfield Tryz.prog 27 0 = some (0, 4) := by kernel_rfl
@[go_sem] theorem ty_27_187 : tfield Tryz.prog 27 1 = some (1, 26) := by kernel_rfl
@[go_sem] theorem ty_28_188 : tsz Tryz.prog 28 = some 2 := by kernel_rfl
@[go_sem] theorem ty_28_189 : tbytes Tryz.prog 28 = some 24 := by kernel_rfl
@[go_sem] theorem ty_28_190 : tzero Tryz.prog 28 = some [.bool false, .string ByteArray.empty] := by kernel_rfl
@[go_sem] theorem ty_28_191 : tagg Tryz.prog 28 = some true := by kernel_rfl
@[go_sem] theorem ty_28_192 : tarr Tryz.prog 28 = none := by kernel_rfl
@[go_sem] theorem ty_28_193 : blksz Tryz.prog 28 = some 2 := by kernel_rfl
@[go_sem] theorem ty_28_194 : tplaces Tryz.prog 28 = some [(0, 1), (1, 1)] := by kernel_rfl
@[go_sem] theorem ty_28_195 : structK Tryz.prog 28 = some [0, 2] := by kernel_rfl
@[go_sem] theorem ty_28_196 : tfield Tryz.prog 28 0 = some (0, 4) := by kernel_rfl
@[go_sem] theorem ty_28_197 : tfield Tryz.prog 28 1 = some (1, 26) := by kernel_rfl
@[go_sem] theorem ty_29_198 : tsz Tryz.prog 29 = some 1 := by kernel_rfl
@[go_sem] theorem ty_29_199 : tbytes Tryz.prog 29 = some 8 := by kernel_rfl
@[go_sem] theorem ty_29_200 : tzero Tryz.prog 29 = some [.nilFunc] := by kernel_rfl
@[go_sem] theorem ty_29_201 : tagg Tryz.prog 29 = some false := by kernel_rfl
@[go_sem] theorem ty_29_202 : blksz Tryz.prog 29 = some 1 := by kernel_rfl
@[go_sem] theorem ty_30_203 : tsz Tryz.prog 30 = some 1 := by kernel_rfl
@[go_sem] theorem ty_30_204 : tbytes Tryz.prog 30 = some 8 := by kernel_rfl
@[go_sem] theorem ty_30_205 : tzero Tryz.prog 30 = some [.nilFunc] := by kernel_rfl
@[go_sem] theorem ty_30_206 : tagg Tryz.prog 30 = some false := by kernel_rfl
@[go_sem] theorem ty_30_207 : blksz Tryz.prog 30 = some 1 := by kernel_rfl
@[go_sem] theorem ty_31_208 : tsz Tryz.prog 31 = some 1 := by kernel_rfl
@[go_sem] theorem ty_31_209 : tbytes Tryz.prog 31 = some 8 := by kernel_rfl
@[go_sem] theorem ty_31_210 : tzero Tryz.prog 31 = some [.nilFunc] := by kernel_rfl
@[go_sem] theorem ty_31_211 : tagg Tryz.prog 31 = some false := by kernel_rfl
@[go_sem] theorem ty_31_212 : blksz Tryz.prog 31 = some 1 := by kernel_rfl
@[go_sem] theorem ty_32_213 : tsz Tryz.prog 32 = some 1 := by kernel_rfl
@[go_sem] theorem ty_32_214 : tbytes Tryz.prog 32 = some 24 := by kernel_rfl
@[go_sem] theorem ty_32_215 : tzero Tryz.prog 32 = some [.slice none 0 0] := by kernel_rfl
@[go_sem] theorem ty_32_216 : tagg Tryz.prog 32 = some false := by kernel_rfl
@[go_sem] theorem ty_32_217 : telem Tryz.prog 32 = some 41 := by kernel_rfl
@[go_sem] theorem ty_32_218 : tstr Tryz.prog 32 = false := by kernel_rfl
@[go_sem] theorem ty_32_219 : blksz Tryz.prog 32 = some 1 := by kernel_rfl
@[go_sem] theorem ty_33_220 : tsz Tryz.prog 33 = some 1 := by kernel_rfl
@[go_sem] theorem ty_33_221 : tbytes Tryz.prog 33 = some 8 := by kernel_rfl
@[go_sem] theorem ty_33_222 : tzero Tryz.prog 33 = some [.int .i64 0] := by kernel_rfl
@[go_sem] theorem ty_33_223 : tagg Tryz.prog 33 = some false := by kernel_rfl
@[go_sem] theorem ty_33_224 : tint Tryz.prog 33 = some .i64 := by kernel_rfl
@[go_sem] theorem ty_33_225 : blksz Tryz.prog 33 = some 1 := by kernel_rfl
@[go_sem] theorem ty_34_226 : tsz Tryz.prog 34 = some 1 := by kernel_rfl
@[go_sem] theorem ty_34_227 : tbytes Tryz.prog 34 = some 0 := by kernel_rfl
@[go_sem] theorem ty_34_228 : tagg Tryz.prog 34 = some false := by kernel_rfl
@[go_sem] theorem ty_34_229 : blksz Tryz.prog 34 = some 1 := by kernel_rfl
@[go_sem] theorem ty_35_230 : tsz Tryz.prog 35 = some 1 := by kernel_rfl
@[go_sem] theorem ty_35_231 : tbytes Tryz.prog 35 = some 8 := by kernel_rfl
@[go_sem] theorem ty_35_232 : tzero Tryz.prog 35 = some [.nilFunc] := by kernel_rfl
@[go_sem] theorem ty_35_233 : tagg Tryz.prog 35 = some false := by kernel_rfl
@[go_sem] theorem ty_35_234 : blksz Tryz.prog 35 = some 1 := by kernel_rfl
@[go_sem] theorem ty_36_235 : tsz Tryz.prog 36 = some 1 := by kernel_rfl
@[go_sem] theorem ty_36_236 : tbytes Tryz.prog 36 = some 8 := by kernel_rfl
@[go_sem] theorem ty_36_237 : tzero Tryz.prog 36 = some [.nilFunc] := by kernel_rfl
@[go_sem] theorem ty_36_238 : tagg Tryz.prog 36 = some false := by kernel_rfl
@[go_sem] theorem ty_36_239 : blksz Tryz.prog 36 = some 1 := by kernel_rfl
@[go_sem] theorem ty_37_240 : tsz Tryz.prog 37 = some 1 := by kernel_rfl
@[go_sem] theorem ty_37_241 : tbytes Tryz.prog 37 = some 8 := by kernel_rfl
@[go_sem] theorem ty_37_242 : tzero Tryz.prog 37 = some [.nilFunc] := by kernel_rfl
@[go_sem] theorem ty_37_243 : tagg Tryz.prog 37 = some false := by kernel_rfl
@[go_sem] theorem ty_37_244 : blksz Tryz.prog 37 = some 1 := by kernel_rfl
@[go_sem] theorem ty_38_245 : tsz Tryz.prog 38 = some 3 := by kernel_rfl
@[go_sem] theorem ty_38_246 : tbytes Tryz.prog 38 = some 40 := by kernel_rfl
@[go_sem] theorem ty_38_247 : tzero Tryz.prog 38 = some [.bool false, .string ByteArray.empty, .string ByteArray.empty] := by kernel_rfl
@[go_sem] theorem ty_38_248 : tagg Tryz.prog 38 = some true := by kernel_rfl
@[go_sem] theorem ty_38_249 : tarr Tryz.prog 38 = none := by kernel_rfl
@[go_sem] theorem ty_38_250 : blksz Tryz.prog 38 = some 3 := by kernel_rfl
@[go_sem] theorem ty_38_251 : tplaces Tryz.prog 38 = some [(0, 2), (2, 1)] := by kernel_rfl
@[go_sem] theorem ty_38_252 : structK Tryz.prog 38 = some [0, 2, 2] := by kernel_rfl
@[go_sem] theorem ty_38_253 : tfield Tryz.prog 38 0 = some (0, 28) := by kernel_rfl
@[go_sem] theorem ty_38_254 : tfield Tryz.prog 38 1 = some (2, 26) := by kernel_rfl
@[go_sem] theorem ty_39_255 : tsz Tryz.prog 39 = some 3 := by kernel_rfl
@[go_sem] theorem ty_39_256 : tbytes Tryz.prog 39 = some 40 := by kernel_rfl
@[go_sem] theorem ty_39_257 : tzero Tryz.prog 39 = some [.bool false, .string ByteArray.empty, .string ByteArray.empty] := by kernel_rfl
@[go_sem] theorem ty_39_258 : tagg Tryz.prog 39 = some true := by kernel_rfl
@[go_sem] theorem ty_39_259 : tarr Tryz.prog 39 = none := by kernel_rfl
@[go_sem] theorem ty_39_260 : blksz Tryz.prog 39 = some 3 := by kernel_rfl
@[go_sem] theorem ty_39_261 : tplaces Tryz.prog 39 = some [(0, 2), (2, 1)] := by kernel_rfl
@[go_sem] theorem ty_39_262 : structK Tryz.prog 39 = some [0, 2, 2] := by kernel_rfl
@[go_sem] theorem ty_39_263 : tfield Tryz.prog 39 0 = some (0, 28) := by kernel_rfl
@[go_sem] theorem ty_39_264 : tfield Tryz.prog 39 1 = some (2, 26) := by kernel_rfl
@[go_sem] theorem ty_40_265 : tsz Tryz.prog 40 = some 4 := by kernel_rfl
@[go_sem] theorem ty_40_266 : tbytes Tryz.prog 40 = some 48 := by kernel_rfl
@[go_sem] theorem ty_40_267 : tzero Tryz.prog 40 = some [.bool false, .string ByteArray.empty, .string ByteArray.empty, .int .i64 0] := by kernel_rfl
@[go_sem] theorem ty_40_268 : tagg Tryz.prog 40 = some true := by kernel_rfl
@[go_sem] theorem ty_40_269 : tarr Tryz.prog 40 = none := by kernel_rfl
@[go_sem] theorem ty_40_270 : blksz Tryz.prog 40 = some 4 := by kernel_rfl
@[go_sem] theorem ty_40_271 : tplaces Tryz.prog 40 = some [(0, 3), (3, 1)] := by kernel_rfl
@[go_sem] theorem ty_40_272 : structK Tryz.prog 40 = some [0, 2, 2, 1] := by kernel_rfl
@[go_sem] theorem ty_40_273 : tfield Tryz.prog 40 0 = some (0, 39) := by kernel_rfl
@[go_sem] theorem ty_40_274 : tfield Tryz.prog 40 1 = some (3, 3) := by kernel_rfl
@[go_sem] theorem ty_41_275 : tsz Tryz.prog 41 = some 4 := by kernel_rfl
@[go_sem] theorem ty_41_276 : tbytes Tryz.prog 41 = some 48 := by kernel_rfl
@[go_sem] theorem ty_41_277 : tzero Tryz.prog 41 = some [.bool false, .string ByteArray.empty, .string ByteArray.empty, .int .i64 0] := by kernel_rfl
@[go_sem] theorem ty_41_278 : tagg Tryz.prog 41 = some true := by kernel_rfl
@[go_sem] theorem ty_41_279 : tarr Tryz.prog 41 = none := by kernel_rfl
@[go_sem] theorem ty_41_280 : blksz Tryz.prog 41 = some 4 := by kernel_rfl
@[go_sem] theorem ty_41_281 : tplaces Tryz.prog 41 = some [(0, 3), (3, 1)] := by kernel_rfl
@[go_sem] theorem ty_41_282 : structK Tryz.prog 41 = some [0, 2, 2, 1] := by kernel_rfl
@[go_sem] theorem ty_41_283 : tfield Tryz.prog 41 0 = some (0, 39) := by kernel_rfl
@[go_sem] theorem ty_41_284 : tfield Tryz.prog 41 1 = some (3, 3) := by kernel_rfl
@[go_sem] theorem ty_42_285 : tsz Tryz.prog 42 = some 1 := by kernel_rfl
@[go_sem] theorem ty_42_286 : tbytes Tryz.prog 42 = some 8 := by kernel_rfl
@[go_sem] theorem ty_42_287 : tzero Tryz.prog 42 = some [.nilFunc] := by kernel_rfl
@[go_sem] theorem ty_42_288 : tagg Tryz.prog 42 = some false := by kernel_rfl
@[go_sem] theorem ty_42_289 : blksz Tryz.prog 42 = some 1 := by kernel_rfl
@[go_sem] theorem ty_43_290 : tsz Tryz.prog 43 = some 1 := by kernel_rfl
@[go_sem] theorem ty_43_291 : tbytes Tryz.prog 43 = some 8 := by kernel_rfl
@[go_sem] theorem ty_43_292 : tzero Tryz.prog 43 = some [.nilFunc] := by kernel_rfl
@[go_sem] theorem ty_43_293 : tagg Tryz.prog 43 = some false := by kernel_rfl
@[go_sem] theorem ty_43_294 : blksz Tryz.prog 43 = some 1 := by kernel_rfl
@[go_sem] theorem ty_44_295 : tsz Tryz.prog 44 = some 1 := by kernel_rfl
@[go_sem] theorem ty_44_296 : tbytes Tryz.prog 44 = some 8 := by kernel_rfl
@[go_sem] theorem ty_44_297 : tzero Tryz.prog 44 = some [.nilFunc] := by kernel_rfl
@[go_sem] theorem ty_44_298 : tagg Tryz.prog 44 = some false := by kernel_rfl
@[go_sem] theorem ty_44_299 : blksz Tryz.prog 44 = some 1 := by kernel_rfl
@[go_sem] theorem ty_45_300 : tsz Tryz.prog 45 = some 1 := by kernel_rfl
@[go_sem] theorem ty_45_301 : tbytes Tryz.prog 45 = some 8 := by kernel_rfl
@[go_sem] theorem ty_45_302 : tzero Tryz.prog 45 = some [.nilFunc] := by kernel_rfl
@[go_sem] theorem ty_45_303 : tagg Tryz.prog 45 = some false := by kernel_rfl
@[go_sem] theorem ty_45_304 : blksz Tryz.prog 45 = some 1 := by kernel_rfl
@[go_sem] theorem ty_46_305 : tsz Tryz.prog 46 = some 1 := by kernel_rfl
@[go_sem] theorem ty_46_306 : tbytes Tryz.prog 46 = some 8 := by kernel_rfl
@[go_sem] theorem ty_46_307 : tzero Tryz.prog 46 = some [.nilFunc] := by kernel_rfl
@[go_sem] theorem ty_46_308 : tagg Tryz.prog 46 = some false := by kernel_rfl
@[go_sem] theorem ty_46_309 : blksz Tryz.prog 46 = some 1 := by kernel_rfl
@[go_sem] theorem ty_47_310 : tsz Tryz.prog 47 = some 1 := by kernel_rfl
@[go_sem] theorem ty_47_311 : tbytes Tryz.prog 47 = some 24 := by kernel_rfl
@[go_sem] theorem ty_47_312 : tzero Tryz.prog 47 = some [.slice none 0 0] := by kernel_rfl
@[go_sem] theorem ty_47_313 : tagg Tryz.prog 47 = some false := by kernel_rfl
@[go_sem] theorem ty_47_314 : telem Tryz.prog 47 = some 127 := by kernel_rfl
@[go_sem] theorem ty_47_315 : tstr Tryz.prog 47 = false := by kernel_rfl
@[go_sem] theorem ty_47_316 : blksz Tryz.prog 47 = some 1 := by kernel_rfl
@[go_sem] theorem ty_48_317 : tsz Tryz.prog 48 = some 1 := by kernel_rfl
@[go_sem] theorem ty_48_318 : tbytes Tryz.prog 48 = some 0 := by kernel_rfl
@[go_sem] theorem ty_48_319 : tagg Tryz.prog 48 = some false := by kernel_rfl
@[go_sem] theorem ty_48_320 : blksz Tryz.prog 48 = some 1 := by kernel_rfl
@[go_sem] theorem ty_49_321 : tsz Tryz.prog 49 = some 1 := by kernel_rfl
@[go_sem] theorem ty_49_322 : tbytes Tryz.prog 49 = some 8 := by kernel_rfl
@[go_sem] theorem ty_49_323 : tzero Tryz.prog 49 = some [.nilFunc] := by kernel_rfl
@[go_sem] theorem ty_49_324 : tagg Tryz.prog 49 = some false := by kernel_rfl
@[go_sem] theorem ty_49_325 : blksz Tryz.prog 49 = some 1 := by kernel_rfl
@[go_sem] theorem ty_50_326 : tsz Tryz.prog 50 = some 1 := by kernel_rfl
@[go_sem] theorem ty_50_327 : tbytes Tryz.prog 50 = some 0 := by kernel_rfl
@[go_sem] theorem ty_50_328 : tagg Tryz.prog 50 = some false := by kernel_rfl
@[go_sem] theorem ty_50_329 : blksz Tryz.prog 50 = some 1 := by kernel_rfl
@[go_sem] theorem ty_51_330 : tsz Tryz.prog 51 = some 1 := by kernel_rfl
@[go_sem] theorem ty_51_331 : tbytes Tryz.prog 51 = some 8 := by kernel_rfl
@[go_sem] theorem ty_51_332 : tzero Tryz.prog 51 = some [.nilFunc] := by kernel_rfl
@[go_sem] theorem ty_51_333 : tagg Tryz.prog 51 = some false := by kernel_rfl
@[go_sem] theorem ty_51_334 : blksz Tryz.prog 51 = some 1 := by kernel_rfl
@[go_sem] theorem ty_52_335 : tsz Tryz.prog 52 = some 1 := by kernel_rfl
@[go_sem] theorem ty_52_336 : tbytes Tryz.prog 52 = some 8 := by kernel_rfl
@[go_sem] theorem ty_52_337 : tzero Tryz.prog 52 = some [.nilFunc] := by kernel_rfl
@[go_sem] theorem ty_52_338 : tagg Tryz.prog 52 = some false := by kernel_rfl
@[go_sem] theorem ty_52_339 : blksz Tryz.prog 52 = some 1 := by kernel_rfl
@[go_sem] theorem ty_53_340 : tsz Tryz.prog 53 = some 1 := by kernel_rfl
@[go_sem] theorem ty_53_341 : tbytes Tryz.prog 53 = some 8 := by kernel_rfl
@[go_sem] theorem ty_53_342 : tzero Tryz.prog 53 = some [.nilFunc] := by kernel_rfl
@[go_sem] theorem ty_53_343 : tagg Tryz.prog 53 = some false := by kernel_rfl
@[go_sem] theorem ty_53_344 : blksz Tryz.prog 53 = some 1 := by kernel_rfl
@[go_sem] theorem ty_54_345 : tsz Tryz.prog 54 = some 1 := by kernel_rfl
@[go_sem] theorem ty_54_346 : tbytes Tryz.prog 54 = some 8 := by kernel_rfl
@[go_sem] theorem ty_54_347 : tzero Tryz.prog 54 = some [.nilFunc] := by kernel_rfl
@[go_sem] theorem ty_54_348 : tagg Tryz.prog 54 = some false := by kernel_rfl
@[go_sem] theorem ty_54_349 : blksz Tryz.prog 54 = some 1 := by kernel_rfl
@[go_sem] theorem ty_55_350 : tsz Tryz.prog 55 = some 1 := by kernel_rfl
@[go_sem] theorem ty_55_351 : tbytes Tryz.prog 55 = some 8 := by kernel_rfl
@[go_sem] theorem ty_55_352 : tzero Tryz.prog 55 = some [.nilFunc] := by kernel_rfl
@[go_sem] theorem ty_55_353 : tagg Tryz.prog 55 = some false := by kernel_rfl
@[go_sem] theorem ty_55_354 : blksz Tryz.prog 55 = some 1 := by kernel_rfl
@[go_sem] theorem ty_56_355 : tsz Tryz.prog 56 = some 1 := by kernel_rfl
@[go_sem] theorem ty_56_356 : tbytes Tryz.prog 56 = some 8 := by kernel_rfl
@[go_sem] theorem ty_56_357 : tzero Tryz.prog 56 = some [.nilFunc] := by kernel_rfl
@[go_sem] theorem ty_56_358 : tagg Tryz.prog 56 = some false := by kernel_rfl
@[go_sem] theorem ty_56_359 : blksz Tryz.prog 56 = some 1 := by kernel_rfl
@[go_sem] theorem ty_57_360 : tsz Tryz.prog 57 = some 1 := by kernel_rfl
@[go_sem] theorem ty_57_361 : tbytes Tryz.prog 57 = some 24 := by kernel_rfl
@[go_sem] theorem ty_57_362 : tzero Tryz.prog 57 = some [.slice none 0 0] := by kernel_rfl
@[go_sem] theorem ty_57_363 : tagg Tryz.prog 57 = some false := by kernel_rfl
@[go_sem] theorem ty_57_364 : telem Tryz.prog 57 = some 39 := by kernel_rfl
@[go_sem] theorem ty_57_365 : tstr Tryz.prog 57 = false := by kernel_rfl
@[go_sem] theorem ty_57_366 : blksz Tryz.prog 57 = some 1 := by kernel_rfl
@[go_sem] theorem ty_58_367 : tsz Tryz.prog 58 = some 1 := by kernel_rfl
@[go_sem] theorem ty_58_368 : tbytes Tryz.prog 58 = some 24 := by kernel_rfl
@[go_sem] theorem ty_58_369 : tzero Tryz.prog 58 = some [.slice none 0 0] := by kernel_rfl
@[go_sem] theorem ty_58_370 : tagg Tryz.prog 58 = some false := by kernel_rfl
@[go_sem] theorem ty_58_371 : telem Tryz.prog 58 = some 39 := by kernel_rfl
@[go_sem] theorem ty_58_372 : tstr Tryz.prog 58 = false := by kernel_rfl
@[go_sem] theorem ty_58_373 : blksz Tryz.prog 58 = some 1 := by kernel_rfl
@[go_sem] theorem ty_59_374 : tsz Tryz.prog 59 = some 1 := by kernel_rfl
@[go_sem] theorem ty_59_375 : tbytes Tryz.prog 59 = some 0 := by kernel_rfl
@[go_sem] theorem ty_59_376 : tagg Tryz.prog 59 = some false := by kernel_rfl
@[go_sem] theorem ty_59_377 : blksz Tryz.prog 59 = some 1 := by kernel_rfl
@[go_sem] theorem ty_60_378 : tsz Tryz.prog 60 = some 1 := by kernel_rfl
@[go_sem] theorem ty_60_379 : tbytes Tryz.prog 60 = some 8 := by kernel_rfl
@[go_sem] theorem ty_60_380 : tzero Tryz.prog 60 = some [.nilFunc] := by kernel_rfl
@[go_sem] theorem ty_60_381 : tagg Tryz.prog 60 = some false := by kernel_rfl
@[go_sem] theorem ty_60_382 : blksz Tryz.prog 60 = some 1 := by kernel_rfl
@[go_sem] theorem ty_61_383 : tsz Tryz.prog 61 = some 1 := by kernel_rfl
@[go_sem] theorem ty_61_384 : tbytes Tryz.prog 61 = some 24 := by kernel_rfl
@[go_sem] theorem ty_61_385 : tzero Tryz.prog 61 = some [.slice none 0 0] := by kernel_rfl
@[go_sem] theorem ty_61_386 : tagg Tryz.prog 61 = some false := by kernel_rfl
@[go_sem] theorem ty_61_387 : telem Tryz.prog 61 = some 57 := by kernel_rfl
@[go_sem] theorem ty_61_388 : tstr Tryz.prog 61 = false := by kernel_rfl
@[go_sem] theorem ty_61_389 : blksz Tryz.prog 61 = some 1 := by kernel_rfl
@[go_sem] theorem ty_62_390 : tsz Tryz.prog 62 = some 1 := by kernel_rfl
@[go_sem] theorem ty_62_391 : tbytes Tryz.prog 62 = some 24 := by kernel_rfl
@[go_sem] theorem ty_62_392 : tzero Tryz.prog 62 = some [.slice none 0 0] := by kernel_rfl
@[go_sem] theorem ty_62_393 : tagg Tryz.prog 62 = some false := by kernel_rfl
@[go_sem] theorem ty_62_394 : telem Tryz.prog 62 = some 57 := by kernel_rfl
@[go_sem] theorem ty_62_395 : tstr Tryz.prog 62 = false := by kernel_rfl
@[go_sem] theorem ty_62_396 : blksz Tryz.prog 62 = some 1 := by kernel_rfl
@[go_sem] theorem ty_63_397 : tsz Tryz.prog 63 = some 1 := by kernel_rfl
@[go_sem] theorem ty_63_398 : tbytes Tryz.prog 63 = some 0 := by kernel_rfl
@[go_sem] theorem ty_63_399 : tagg Tryz.prog 63 = some false := by kernel_rfl
@[go_sem] theorem ty_63_400 : blksz Tryz.prog 63 = some 1 := by kernel_rfl
@[go_sem] theorem ty_64_401 : tsz Tryz.prog 64 = some 1 := by kernel_rfl
@[go_sem] theorem ty_64_402 : tbytes Tryz.prog 64 = some 8 := by kernel_rfl
@[go_sem] theorem ty_64_403 : tzero Tryz.prog 64 = some [.nilFunc] := by kernel_rfl
@[go_sem] theorem ty_64_404 : tagg Tryz.prog 64 = some false := by kernel_rfl
@[go_sem] theorem ty_64_405 : blksz Tryz.prog 64 = some 1 := by kernel_rfl
@[go_sem] theorem ty_65_406 : tsz Tryz.prog 65 = some 1 := by kernel_rfl
@[go_sem] theorem ty_65_407 : tbytes Tryz.prog 65 = some 8 := by kernel_rfl
@[go_sem] theorem ty_65_408 : tzero Tryz.prog 65 = some [.nilFunc] := by kernel_rfl
@[go_sem] theorem ty_65_409 : tagg Tryz.prog 65 = some false := by kernel_rfl
@[go_sem] theorem ty_65_410 : blksz Tryz.prog 65 = some 1 := by kernel_rfl
@[go_sem] theorem ty_66_411 : tsz Tryz.prog 66 = some 1 := by kernel_rfl
@[go_sem] theorem ty_66_412 : tbytes Tryz.prog 66 = some 8 := by kernel_rfl
@[go_sem] theorem ty_66_413 : tzero Tryz.prog 66 = some [.nilFunc] := by kernel_rfl
@[go_sem] theorem ty_66_414 : tagg Tryz.prog 66 = some false := by kernel_rfl
@[go_sem] theorem ty_66_415 : blksz Tryz.prog 66 = some 1 := by kernel_rfl
@[go_sem] theorem ty_67_416 : tsz Tryz.prog 67 = some 1 := by kernel_rfl
@[go_sem] theorem ty_67_417 : tbytes Tryz.prog 67 = some 8 := by kernel_rfl
@[go_sem] theorem ty_67_418 : tzero Tryz.prog 67 = some [.nilFunc] := by kernel_rfl
@[go_sem] theorem ty_67_419 : tagg Tryz.prog 67 = some false := by kernel_rfl
@[go_sem] theorem ty_67_420 : blksz Tryz.prog 67 = some 1 := by kernel_rfl
@[go_sem] theorem ty_68_421 : tsz Tryz.prog 68 = some 1 := by kernel_rfl
@[go_sem] theorem ty_68_422 : tbytes Tryz.prog 68 = some 8 := by kernel_rfl
@[go_sem] theorem ty_68_423 : tzero Tryz.prog 68 = some [.nilFunc] := by kernel_rfl
@[go_sem] theorem ty_68_424 : tagg Tryz.prog 68 = some false := by kernel_rfl
@[go_sem] theorem ty_68_425 : blksz Tryz.prog 68 = some 1 := by kernel_rfl
@[go_sem] theorem ty_69_426 : tsz Tryz.prog 69 = some 1 := by kernel_rfl
@[go_sem] theorem ty_69_427 : tbytes Tryz.prog 69 = some 8 := by kernel_rfl
@[go_sem] theorem ty_69_428 : tzero Tryz.prog 69 = some [.nilFunc] := by kernel_rfl
@[go_sem] theorem ty_69_429 : tagg Tryz.prog 69 = some false := by kernel_rfl
@[go_sem] theorem ty_69_430 : blksz Tryz.prog 69 = some 1 := by kernel_rfl
@[go_sem] theorem ty_70_431 : tsz Tryz.prog 70 = some 1 := by kernel_rfl
@[go_sem] theorem ty_70_432 : tbytes Tryz.prog 70 = some 8 := by kernel_rfl
@[go_sem] theorem ty_70_433 : tzero Tryz.prog 70 = some [.nilFunc] := by kernel_rfl
@[go_sem] theorem ty_70_434 : tagg Tryz.prog 70 = some false := by kernel_rfl
@[go_sem] theorem ty_70_435 : blksz Tryz.prog 70 = some 1 := by kernel_rfl
@[go_sem] theorem ty_71_436 : tsz Tryz.prog 71 = some 1 := by kernel_rfl
@[go_sem] theorem ty_71_437 : tbytes Tryz.prog 71 = some 8 := by kernel_rfl
@[go_sem] theorem ty_71_438 : tzero Tryz.prog 71 = some [.nilFunc] := by kernel_rfl
@[go_sem] theorem ty_71_439 : tagg Tryz.prog 71 = some false := by kernel_rfl
@[go_sem] theorem ty_71_440 : blksz Tryz.prog 71 = some 1 := by kernel_rfl
@[go_sem] theorem ty_72_441 : tsz Tryz.prog 72 = some 1 := by kernel_rfl
@[go_sem] theorem ty_72_442 : tbytes Tryz.prog 72 = some 8 := by kernel_rfl
@[go_sem] theorem ty_72_443 : tzero Tryz.prog 72 = some [.nilFunc] := by kernel_rfl
@[go_sem] theorem ty_72_444 : tagg Tryz.prog 72 = some false := by kernel_rfl
@[go_sem] theorem ty_72_445 : blksz Tryz.prog 72 = some 1 := by kernel_rfl
@[go_sem] theorem ty_73_446 : tsz Tryz.prog 73 = some 1 := by kernel_rfl
@[go_sem] theorem ty_73_447 : tbytes Tryz.prog 73 = some 8 := by kernel_rfl
@[go_sem] theorem ty_73_448 : tzero Tryz.prog 73 = some [.nilFunc] := by kernel_rfl
@[go_sem] theorem ty_73_449 : tagg Tryz.prog 73 = some false := by kernel_rfl
@[go_sem] theorem ty_73_450 : blksz Tryz.prog 73 = some 1 := by kernel_rfl
@[go_sem] theorem ty_74_451 : tsz Tryz.prog 74 = some 1 := by kernel_rfl
@[go_sem] theorem ty_74_452 : tbytes Tryz.prog 74 = some 0 := by kernel_rfl
@[go_sem] theorem ty_74_453 : tagg Tryz.prog 74 = some false := by kernel_rfl
@[go_sem] theorem ty_74_454 : blksz Tryz.prog 74 = some 1 := by kernel_rfl
@[go_sem] theorem ty_75_455 : tsz Tryz.prog 75 = some 1 := by kernel_rfl
@[go_sem] theorem ty_75_456 : tbytes Tryz.prog 75 = some 8 := by kernel_rfl
@[go_sem] theorem ty_75_457 : tzero Tryz.prog 75 = some [.nilFunc] := by kernel_rfl
@[go_sem] theorem ty_75_458 : tagg Tryz.prog 75 = some false := by kernel_rfl
@[go_sem] theorem ty_75_459 : blksz Tryz.prog 75 = some 1 := by kernel_rfl
@[go_sem] theorem ty_76_460 : tsz Tryz.prog 76 = some 1 := by kernel_rfl
@[go_sem] theorem ty_76_461 : tbytes Tryz.prog 76 = some 8 := by kernel_rfl
@[go_sem] theorem ty_76_462 : tzero Tryz.prog 76 = some [.nilFunc] := by kernel_rfl
@[go_sem] theorem ty_76_463 : tagg Tryz.prog 76 = some false := by kernel_rfl
@[go_sem] theorem ty_76_464 : blksz Tryz.prog 76 = some 1 := by kernel_rfl
@[go_sem] theorem ty_77_465 : tsz Tryz.prog 77 = some 1 := by kernel_rfl
@[go_sem] theorem ty_77_466 : tbytes Tryz.prog 77 = some 24 := by kernel_rfl
@[go_sem] theorem ty_77_467 : tzero Tryz.prog 77 = some [.slice none 0 0] := by kernel_rfl
@[go_sem] theorem ty_77_468 : tagg Tryz.prog 77 = some true := by kernel_rfl
@[go_sem] theorem ty_77_469 : tarr Tryz.prog 77 = none := by kernel_rfl
@[go_sem] theorem ty_77_470 : blksz Tryz.prog 77 = some 1 := by kernel_rfl
@[go_sem] theorem ty_77_471 : tplaces Tryz.prog 77 = some [(0, 1)] := by kernel_rfl
@[go_sem] theorem ty_77_472 : tfield Tryz.prog 77 0 = some (0, 58) := by kernel_rfl
@[go_sem] theorem ty_78_473 : tsz Tryz.prog 78 = some 1 := by kernel_rfl
@[go_sem] theorem ty_78_474 : tbytes Tryz.prog 78 = some 24 := by kernel_rfl
@[go_sem] theorem ty_78_475 : tzero Tryz.prog 78 = some [.slice none 0 0] := by kernel_rfl
@[go_sem] theorem ty_78_476 : tagg Tryz.prog 78 = some true := by kernel_rfl
@[go_sem] theorem ty_78_477 : tarr Tryz.prog 78 = none := by kernel_rfl
@[go_sem] theorem ty_78_478 : blksz Tryz.prog 78 = some 1 := by kernel_rfl
@[go_sem] theorem ty_78_479 : tplaces Tryz.prog 78 = some [(0, 1)] := by kernel_rfl
@[go_sem] theorem ty_78_480 : tfield Tryz.prog 78 0 = some (0, 58) := by kernel_rfl
@[go_sem] theorem ty_79_481 : tsz Tryz.prog 79 = some 1 := by kernel_rfl
@[go_sem] theorem ty_79_482 : tbytes Tryz.prog 79 = some 8 := by kernel_rfl
@[go_sem] theorem ty_79_483 : tzero Tryz.prog 79 = some [.nilFunc] := by kernel_rfl
@[go_sem] theorem ty_79_484 : tagg Tryz.prog 79 = some false := by kernel_rfl
@[go_sem] theorem ty_79_485 : blksz Tryz.prog 79 = some 1 := by kernel_rfl
@[go_sem] theorem ty_80_486 : tsz Tryz.prog 80 = some 1 := by kernel_rfl
@[go_sem] theorem ty_80_487 : tbytes Tryz.prog 80 = some 8 := by kernel_rfl
@[go_sem] theorem ty_80_488 : tzero Tryz.prog 80 = some [.nilFunc] := by kernel_rfl
@[go_sem] theorem ty_80_489 : tagg Tryz.prog 80 = some false := by kernel_rfl
@[go_sem] theorem ty_80_490 : blksz Tryz.prog 80 = some 1 := by kernel_rfl
@[go_sem] theorem ty_81_491 : tsz Tryz.prog 81 = some 1 := by kernel_rfl
@[go_sem] theorem ty_81_492 : tbytes Tryz.prog 81 = some 0 := by kernel_rfl
@[go_sem] theorem ty_81_493 : tagg Tryz.prog 81 = some false := by kernel_rfl
@[go_sem] theorem ty_81_494 : blksz Tryz.prog 81 = some 1 := by kernel_rfl
@[go_sem] theorem ty_82_495 : tsz Tryz.prog 82 = some 1 := by kernel_rfl
@[go_sem] theorem ty_82_496 : tbytes Tryz.prog 82 = some 8 := by kernel_rfl
@[go_sem] theorem ty_82_497 : tzero Tryz.prog 82 = some [.nilFunc] := by kernel_rfl
@[go_sem] theorem ty_82_498 : tagg Tryz.prog 82 = some false := by kernel_rfl
@[go_sem] theorem ty_82_499 : blksz Tryz.prog 82 = some 1 := by kernel_rfl
@[go_sem] theorem ty_83_500 : tsz Tryz.prog 83 = some 1 := by kernel_rfl
@[go_sem] theorem ty_83_501 : tbytes Tryz.prog 83 = some 8 := by kernel_rfl
@[go_sem] theorem ty_83_502 : tzero Tryz.prog 83 = some [.nilFunc] := by kernel_rfl
@[go_sem] theorem ty_83_503 : tagg Tryz.prog 83 = some false := by kernel_rfl
@[go_sem] theorem ty_83_504 : blksz Tryz.prog 83 = some 1 := by kernel_rfl
@[go_sem] theorem ty_84_505 : tsz Tryz.prog 84 = some 1 := by kernel_rfl
@[go_sem] theorem ty_84_506 : tbytes Tryz.prog 84 = some 8 := by kernel_rfl
@[go_sem] theorem ty_84_507 : tzero Tryz.prog 84 = some [.nilFunc] := by kernel_rfl
@[go_sem] theorem ty_84_508 : tagg Tryz.prog 84 = some false := by kernel_rfl
@[go_sem] theorem ty_84_509 : blksz Tryz.prog 84 = some 1 := by kernel_rfl
@[go_sem] theorem ty_85_510 : tsz Tryz.prog 85 = some 2 := by kernel_rfl
@[go_sem] theorem ty_85_511 : tbytes Tryz.prog 85 = some 2 := by kernel_rfl
@[go_sem] theorem ty_85_512 : tzero Tryz.prog 85 = some [.int .u8 0, .int .u8 0] := by kernel_rfl
@[go_sem] theorem ty_85_513 : tagg Tryz.prog 85 = some true := by kernel_rfl
@[go_sem] theorem ty_85_514 : tarr Tryz.prog 85 = none := by kernel_rfl
@[go_sem] theorem ty_85_515 : blksz Tryz.prog 85 = some 2 := by kernel_rfl
@[go_sem] theorem ty_85_516 : tplaces Tryz.prog 85 = some [(0, 1), (1, 1)] := by kernel_rfl
@[go_sem] theorem ty_85_517 : structK Tryz.prog 85 = some [1, 1] := by kernel_rfl
@[go_sem] theorem ty_85_518 : tfield Tryz.prog 85 0 = some (0, 5) := by kernel_rfl
@[go_sem] theorem ty_85_519 : tfield Tryz.prog 85 1 = some (1, 5) := by kernel_rfl
@[go_sem] theorem ty_86_520 : tsz Tryz.prog 86 = some 2 := by kernel_rfl
@[go_sem] theorem ty_86_521 : tbytes Tryz.prog 86 = some 2 := by kernel_rfl
@[go_sem] theorem ty_86_522 : tzero Tryz.prog 86 = some [.int .u8 0, .int .u8 0] := by kernel_rfl
@[go_sem] theorem ty_86_523 : tagg Tryz.prog 86 = some true := by kernel_rfl
@[go_sem] theorem ty_86_524 : tarr Tryz.prog 86 = none := by kernel_rfl
@[go_sem] theorem ty_86_525 : blksz Tryz.prog 86 = some 2 := by kernel_rfl
@[go_sem] theorem ty_86_526 : tplaces Tryz.prog 86 = some [(0, 1), (1, 1)] := by kernel_rfl
@[go_sem] theorem ty_86_527 : structK Tryz.prog 86 = some [1, 1] := by kernel_rfl
@[go_sem] theorem ty_86_528 : tfield Tryz.prog 86 0 = some (0, 5) := by kernel_rfl
@[go_sem] theorem ty_86_529 : tfield Tryz.prog 86 1 = some (1, 5) := by kernel_rfl
@[go_sem] theorem ty_87_530 : tsz Tryz.prog 87 = some 1 := by kernel_rfl
@[go_sem] theorem ty_87_531 : tbytes Tryz.prog 87 = some 24 := by kernel_rfl
@[go_sem] theorem ty_87_532 : tzero Tryz.prog 87 = some [.slice none 0 0] := by kernel_rfl
@[go_sem] theorem ty_87_533 : tagg Tryz.prog 87 = some false := by kernel_rfl
@[go_sem] theorem ty_87_534 : telem Tryz.prog 87 = some 93 := by kernel_rfl
@[go_sem] theorem ty_87_535 : tstr Tryz.prog 87 = false := by kernel_rfl
@[go_sem] theorem ty_87_536 : blksz Tryz.prog 87 = some 1 := by kernel_rfl
@[go_sem] theorem ty_88_537 : tsz Tryz.prog 88 = some 1 := by kernel_rfl
@[go_sem] theorem ty_88_538 : tbytes Tryz.prog 88 = some 0 := by kernel_rfl
@[go_sem] theorem ty_88_539 : tagg Tryz.prog 88 = some false := by kernel_rfl
@[go_sem] theorem ty_88_540 : blksz Tryz.prog 88 = some 1 := by kernel_rfl
@[go_sem] theorem ty_89_541 : tsz Tryz.prog 89 = some 1 := by kernel_rfl
@[go_sem] theorem ty_89_542 : tbytes Tryz.prog 89 = some 8 := by kernel_rfl
@[go_sem] theorem ty_89_543 : tzero Tryz.prog 89 = some [.nilFunc] := by kernel_rfl
@[go_sem] theorem ty_89_544 : tagg Tryz.prog 89 = some false := by kernel_rfl
@[go_sem] theorem ty_89_545 : blksz Tryz.prog 89 = some 1 := by kernel_rfl
@[go_sem] theorem ty_90_546 : tsz Tryz.prog 90 = some 1 := by kernel_rfl
@[go_sem] theorem ty_90_547 : tbytes Tryz.prog 90 = some 24 := by kernel_rfl
@[go_sem] theorem ty_90_548 : tzero Tryz.prog 90 = some [.slice none 0 0] := by kernel_rfl
@[go_sem] theorem ty_90_549 : tagg Tryz.prog 90 = some false := by kernel_rfl
@[go_sem] theorem ty_90_550 : telem Tryz.prog 90 = some 58 := by kernel_rfl
@[go_sem] theorem ty_90_551 : tstr Tryz.prog 90 = false := by kernel_rfl
@[go_sem] theorem ty_90_552 : blksz Tryz.prog 90 = some 1 := by kernel_rfl
@[go_sem] theorem ty_91_553 : tsz Tryz.prog 91 = some 1 := by kernel_rfl
@[go_sem] theorem ty_91_554 : tbytes Tryz.prog 91 = some 0 := by kernel_rfl
@[go_sem] theorem ty_91_555 : tagg Tryz.prog 91 = some false := by kernel_rfl
@[go_sem] theorem ty_91_556 : blksz Tryz.prog 91 = some 1 := by kernel_rfl
@[go_sem] theorem ty_92_557 : tsz Tryz.prog 92 = some 1 := by kernel_rfl
@[go_sem] theorem ty_92_558 : tbytes Tryz.prog 92 = some 8 := by kernel_rfl
@[go_sem] theorem ty_92_559 : tzero Tryz.prog 92 = some [.nilFunc] := by kernel_rfl
@[go_sem] theorem ty_92_560 : tagg Tryz.prog 92 = some false := by kernel_rfl
@[go_sem] theorem ty_92_561 : blksz Tryz.prog 92 = some 1 := by kernel_rfl
@[go_sem] theorem ty_93_562 : tsz Tryz.prog 93 = some 1 := by kernel_rfl
@[go_sem] theorem ty_93_563 : tbytes Tryz.prog 93 = some 1 := by kernel_rfl
@[go_sem] theorem ty_93_564 : tzero Tryz.prog 93 = some [.int .i8 0] := by kernel_rfl
@[go_sem] theorem ty_93_565 : tagg Tryz.prog 93 = some false := by kernel_rfl
@[go_sem] theorem ty_93_566 : tint Tryz.prog 93 = some .i8 := by kernel_rfl
@[go_sem] theorem ty_93_567 : blksz Tryz.prog 93 = some 1 := by kernel_rfl
@[go_sem] theorem ty_94_568 : tsz Tryz.prog 94 = some 1 := by kernel_rfl
@[go_sem] theorem ty_94_569 : tbytes Tryz.prog 94 = some 8 := by kernel_rfl
@[go_sem] theorem ty_94_570 : tzero Tryz.prog 94 = some [.nilFunc] := by kernel_rfl
@[go_sem] theorem ty_94_571 : tagg Tryz.prog 94 = some false := by kernel_rfl
@[go_sem] theorem ty_94_572 : blksz Tryz.prog 94 = some 1 := by kernel_rfl
@[go_sem] theorem ty_95_573 : tsz Tryz.prog 95 = some 1 := by kernel_rfl
@[go_sem] theorem ty_95_574 : tbytes Tryz.prog 95 = some 8 := by kernel_rfl
@[go_sem] theorem ty_95_575 : tzero Tryz.prog 95 = some [.nilFunc] := by kernel_rfl
@[go_sem] theorem ty_95_576 : tagg Tryz.prog 95 = some false := by kernel_rfl
@[go_sem] theorem ty_95_577 : blksz Tryz.prog 95 = some 1 := by kernel_rfl
@[go_sem] theorem ty_96_578 : tsz Tryz.prog 96 = some 1 := by kernel_rfl
@[go_sem] theorem ty_96_579 : tbytes Tryz.prog 96 = some 8 := by kernel_rfl
@[go_sem] theorem ty_96_580 : tzero Tryz.prog 96 = some [.nilFunc] := by kernel_rfl
@[go_sem] theorem ty_96_581 : tagg Tryz.prog 96 = some false := by kernel_rfl
@[go_sem] theorem ty_96_582 : blksz Tryz.prog 96 = some 1 := by kernel_rfl
@[go_sem] theorem ty_97_583 : tsz Tryz.prog 97 = some 1 := by kernel_rfl
@[go_sem] theorem ty_97_584 : tbytes Tryz.prog 97 = some 8 := by kernel_rfl
@[go_sem] theorem ty_97_585 : tzero Tryz.prog 97 = some [.nilFunc] := by kernel_rfl
@[go_sem] theorem ty_97_586 : tagg Tryz.prog 97 = some false := by kernel_rfl
@[go_sem] theorem ty_97_587 : blksz Tryz.prog 97 = some 1 := by kernel_rfl
@[go_sem] theorem ty_98_588 : tsz Tryz.prog 98 = some 1 := by kernel_rfl
@[go_sem] theorem ty_98_589 : tbytes Tryz.prog 98 = some 24 := by kernel_rfl
@[go_sem] theorem ty_98_590 : tzero Tryz.prog 98 = some [.slice none 0 0] := by kernel_rfl
@[go_sem] theorem ty_98_591 : tagg Tryz.prog 98 = some false := by kernel_rfl
@[go_sem] theorem ty_98_592 : telem Tryz.prog 98 = some 3 := by kernel_rfl
@[go_sem] theorem ty_98_593 : tstr Tryz.prog 98 = false := by kernel_rfl
@[go_sem] theorem ty_98_594 : blksz Tryz.prog 98 = some 1 := by kernel_rfl
@[go_sem] theorem ty_99_595 : tsz Tryz.prog 99 = some 1 := by kernel_rfl
@[go_sem] theorem ty_99_596 : tbytes Tryz.prog 99 = some 0 := by kernel_rfl
@[go_sem] theorem ty_99_597 : tagg Tryz.prog 99 = some false := by kernel_rfl
@[go_sem] theorem ty_99_598 : blksz Tryz.prog 99 = some 1 := by kernel_rfl
@[go_sem] theorem ty_100_599 : tsz Tryz.prog 100 = some 1 := by kernel_rfl
@[go_sem] theorem ty_100_600 : tbytes Tryz.prog 100 = some 8 := by kernel_rfl
@[go_sem] theorem ty_100_601 : tzero Tryz.prog 100 = some [.nilFunc] := by kernel_rfl
@[go_sem] theorem ty_100_602 : tagg Tryz.prog 100 = some false := by kernel_rfl
@[go_sem] theorem ty_100_603 : blksz Tryz.prog 100 = some 1 := by kernel_rfl
@[go_sem] theorem ty_101_604 : tsz Tryz.prog 101 = some 1 := by kernel_rfl
@[go_sem] theorem ty_101_605 : tbytes Tryz.prog 101 = some 8 := by kernel_rfl
@[go_sem] theorem ty_101_606 : tzero Tryz.prog 101 = some [.nilFunc] := by kernel_rfl
@[go_sem] theorem ty_101_607 : tagg Tryz.prog 101 = some false := by kernel_rfl
@[go_sem] theorem ty_101_608 : blksz Tryz.prog 101 = some 1 := by kernel_rfl
@[go_sem] theorem ty_102_609 : tsz Tryz.prog 102 = some 1 := by kernel_rfl
@[go_sem] theorem ty_102_610 : tbytes Tryz.prog 102 = some 8 := by kernel_rfl
@[go_sem] theorem ty_102_611 : tzero Tryz.prog 102 = some [.nilFunc] := by kernel_rfl
@[go_sem] theorem ty_102_612 : tagg Tryz.prog 102 = some false := by kernel_rfl
@[go_sem] theorem ty_102_613 : blksz Tryz.prog 102 = some 1 := by kernel_rfl
@[go_sem] theorem ty_103_614 : tsz Tryz.prog 103 = some 1 := by kernel_rfl
@[go_sem] theorem ty_103_615 : tbytes Tryz.prog 103 = some 8 := by kernel_rfl
@[go_sem] theorem ty_103_616 : tzero Tryz.prog 103 = some [.nilFunc] := by kernel_rfl
@[go_sem] theorem ty_103_617 : tagg Tryz.prog 103 = some false := by kernel_rfl
@[go_sem] theorem ty_103_618 : blksz Tryz.prog 103 = some 1 := by kernel_rfl
@[go_sem] theorem ty_104_619 : tsz Tryz.prog 104 = some 1 := by kernel_rfl
@[go_sem] theorem ty_104_620 : tbytes Tryz.prog 104 = some 8 := by kernel_rfl
@[go_sem] theorem ty_104_621 : tzero Tryz.prog 104 = some [.nilFunc] := by kernel_rfl
@[go_sem] theorem ty_104_622 : tagg Tryz.prog 104 = some false := by kernel_rfl
@[go_sem] theorem ty_104_623 : blksz Tryz.prog 104 = some 1 := by kernel_rfl
@[go_sem] theorem ty_105_624 : tsz Tryz.prog 105 = some 1 := by kernel_rfl
@[go_sem] theorem ty_105_625 : tbytes Tryz.prog 105 = some 8 := by kernel_rfl
@[go_sem] theorem ty_105_626 : tzero Tryz.prog 105 = some [.nilFunc] := by kernel_rfl
@[go_sem] theorem ty_105_627 : tagg Tryz.prog 105 = some false := by kernel_rfl
@[go_sem] theorem ty_105_628 : blksz Tryz.prog 105 = some 1 := by kernel_rfl
@[go_sem] theorem ty_106_629 : tsz Tryz.prog 106 = some 1 := by kernel_rfl
@[go_sem] theorem ty_106_630 : tbytes Tryz.prog 106 = some 8 := by kernel_rfl
@[go_sem] theorem ty_106_631 : tzero Tryz.prog 106 = some [.nilFunc] := by kernel_rfl
@[go_sem] theorem ty_106_632 : tagg Tryz.prog 106 = some false := by kernel_rfl
@[go_sem] theorem ty_106_633 : blksz Tryz.prog 106 = some 1 := by kernel_rfl
@[go_sem] theorem ty_107_634 : tsz Tryz.prog 107 = some 1 := by kernel_rfl
@[go_sem] theorem ty_107_635 : tbytes Tryz.prog 107 = some 8 := by kernel_rfl
@[go_sem] theorem ty_107_636 : tzero Tryz.prog 107 = some [.nilFunc] := by kernel_rfl
@[go_sem] theorem ty_107_637 : tagg Tryz.prog 107 = some false := by kernel_rfl
@[go_sem] theorem ty_107_638 : blksz Tryz.prog 107 = some 1 := by kernel_rfl
@[go_sem] theorem ty_108_639 : tsz Tryz.prog 108 = some 1 := by kernel_rfl
@[go_sem] theorem ty_108_640 : tbytes Tryz.prog 108 = some 8 := by kernel_rfl
@[go_sem] theorem ty_108_641 : tzero Tryz.prog 108 = some [.nilFunc] := by kernel_rfl
@[go_sem] theorem ty_108_642 : tagg Tryz.prog 108 = some false := by kernel_rfl
@[go_sem] theorem ty_108_643 : blksz Tryz.prog 108 = some 1 := by kernel_rfl
@[go_sem] theorem ty_109_644 : tsz Tryz.prog 109 = some 1 := by kernel_rfl
@[go_sem] theorem ty_109_645 : tbytes Tryz.prog 109 = some 8 := by kernel_rfl
@[go_sem] theorem ty_109_646 : tzero Tryz.prog 109 = some [.nilFunc] := by kernel_rfl
@[go_sem] theorem ty_109_647 : tagg Tryz.prog 109 = some false := by kernel_rfl
@[go_sem] theorem ty_109_648 : blksz Tryz.prog 109 = some 1 := by kernel_rfl
@[go_sem] theorem ty_110_649 : tsz Tryz.prog 110 = some 1 := by kernel_rfl
@[go_sem] theorem ty_110_650 : tbytes Tryz.prog 110 = some 8 := by kernel_rfl
@[go_sem] theorem ty_110_651 : tzero Tryz.prog 110 = some [.nilFunc] := by kernel_rfl
@[go_sem] theorem ty_110_652 : tagg Tryz.prog 110 = some false := by kernel_rfl
@[go_sem] theorem ty_110_653 : blksz Tryz.prog 110 = some 1 := by kernel_rfl
@[go_sem] theorem ty_111_654 : tsz Tryz.prog 111 = some 1 := by kernel_rfl
@[go_sem] theorem ty_111_655 : tbytes Tryz.prog 111 = some 8 := by kernel_rfl
@[go_sem] theorem ty_111_656 : tzero Tryz.prog 111 = some [.nilFunc] := by kernel_rfl
@[go_sem] theorem ty_111_657 : tagg Tryz.prog 111 = some false := by kernel_rfl
@[go_sem] theorem ty_111_658 : blksz Tryz.prog 111 = some 1 := by kernel_rfl
@[go_sem] theorem ty_112_659 : tsz Tryz.prog 112 = some 1 := by kernel_rfl
@[go_sem] theorem ty_112_660 : tbytes Tryz.prog 112 = some 8 := by kernel_rfl
@[go_sem] theorem ty_112_661 : tzero Tryz.prog 112 = some [.nilFunc] := by kernel_rfl
@[go_sem] theorem ty_112_662 : tagg Tryz.prog 112 = some false := by kernel_rfl
@[go_sem] theorem ty_112_663 : blksz Tryz.prog 112 = some 1 := by kernel_rfl
@[go_sem] theorem ty_113_664 : tsz Tryz.prog 113 = some 1 := by kernel_rfl
@[go_sem] theorem ty_113_665 : tbytes Tryz.prog 113 = some 8 := by kernel_rfl
@[go_sem] theorem ty_113_666 : tzero Tryz.prog 113 = some [.nilFunc] := by kernel_rfl
@[go_sem] theorem ty_113_667 : tagg Tryz.prog 113 = some false := by kernel_rfl
@[go_sem] theorem ty_113_668 : blksz Tryz.prog 113 = some 1 := by kernel_rfl
@[go_sem] theorem ty_114_669 : tsz Tryz.prog 114 = some 1 := by kernel_rfl
@[go_sem] theorem ty_114_670 : tbytes Tryz.prog 114 = some 8 := by kernel_rfl
@[go_sem] theorem ty_114_671 : tzero Tryz.prog 114 = some [.nilFunc] := by kernel_rfl
@[go_sem] theorem ty_114_672 : tagg Tryz.prog 114 = some false := by kernel_rfl
@[go_sem] theorem ty_114_673 : blksz Tryz.prog 114 = some 1 := by kernel_rfl
@[go_sem] theorem ty_115_674 : tsz Tryz.prog 115 = some 1 := by kernel_rfl
@[go_sem] theorem ty_115_675 : tbytes Tryz.prog 115 = some 8 := by kernel_rfl
@[go_sem] theorem ty_115_676 : tzero Tryz.prog 115 = some [.nilFunc] := by kernel_rfl
@[go_sem] theorem ty_115_677 : tagg Tryz.prog 115 = some false := by kernel_rfl
@[go_sem] theorem ty_115_678 : blksz Tryz.prog 115 = some 1 := by kernel_rfl
@[go_sem] theorem ty_116_679 : tsz Tryz.prog 116 = some 1 := by kernel_rfl
@[go_sem] theorem ty_116_680 : tbytes Tryz.prog 116 = some 8 := by kernel_rfl
@[go_sem] theorem ty_116_681 : tzero Tryz.prog 116 = some [.nilFunc] := by kernel_rfl
@[go_sem] theorem ty_116_682 : tagg Tryz.prog 116 = some false := by kernel_rfl
@[go_sem] theorem ty_116_683 : blksz Tryz.prog 116 = some 1 := by kernel_rfl
@[go_sem] theorem ty_117_684 : tsz Tryz.prog 117 = some 1 := by kernel_rfl
@[go_sem] theorem ty_117_685 : tbytes Tryz.prog 117 = some 8 := by kernel_rfl
@[go_sem] theorem ty_117_686 : tzero Tryz.prog 117 = some [.nilFunc] := by kernel_rfl
@[go_sem] theorem ty_117_687 : tagg Tryz.prog 117 = some false := by kernel_rfl
@[go_sem] theorem ty_117_688 : blksz Tryz.prog 117 = some 1 := by kernel_rfl
@[go_sem] theorem ty_118_689 : tsz Tryz.prog 118 = some 1 := by kernel_rfl
@[go_sem] theorem ty_118_690 : tbytes Tryz.prog 118 = some 8 := by kernel_rfl
@[go_sem] theorem ty_118_691 : tzero Tryz.prog 118 = some [.nilFunc] := by kernel_rfl
@[go_sem] theorem ty_118_692 : tagg Tryz.prog 118 = some false := by kernel_rfl
@[go_sem] theorem ty_118_693 : blksz Tryz.prog 118 = some 1 := by kernel_rfl
@[go_sem] theorem ty_119_694 : tsz Tryz.prog 119 = some 1 := by kernel_rfl
@[go_sem] theorem ty_119_695 : tbytes Tryz.prog 119 = some 8 := by kernel_rfl
@[go_sem] theorem ty_119_696 : tzero Tryz.prog 119 = some [.nilFunc] := by kernel_rfl
@[go_sem] theorem ty_119_697 : tagg Tryz.prog 119 = some false := by kernel_rfl
@[go_sem] theorem ty_119_698 : blksz Tryz.prog 119 = some 1 := by kernel_rfl
@[go_sem] theorem ty_120_699 : tsz Tryz.prog 120 = some 1 := by kernel_rfl
@[go_sem] theorem ty_120_700 : tbytes Tryz.prog 120 = some 8 := by kernel_rfl
@[go_sem] theorem ty_120_701 : tzero Tryz.prog 120 = some [.nilFunc] := by kernel_rfl
@[go_sem] theorem ty_120_702 : tagg Tryz.prog 120 = some false := by kernel_rfl
@[go_sem] theorem ty_120_703 : blksz Tryz.prog 120 = some 1 := by kernel_rfl
@[go_sem] theorem ty_121_704 : tsz Tryz.prog 121 = some 1 := by kernel_rfl
@[go_sem] theorem ty_121_705 : tbytes Tryz.prog 121 = some 8 := by kernel_rfl
@[go_sem] theorem ty_121_706 : tzero Tryz.prog 121 = some [.nilFunc] := by kernel_rfl
@[go_sem] theorem ty_121_707 : tagg Tryz.prog 121 = some false := by kernel_rfl
@[go_sem] theorem ty_121_708 : blksz Tryz.prog 121 = some 1 := by kernel_rfl
@[go_sem] theorem ty_122_709 : tsz Tryz.prog 122 = some 1 := by kernel_rfl
@[go_sem] theorem ty_122_710 : tbytes Tryz.prog 122 = some 8 := by kernel_rfl
@[go_sem] theorem ty_122_711 : tzero Tryz.prog 122 = some [.nilFunc] := by kernel_rfl
@[go_sem] theorem ty_122_712 : tagg Tryz.prog 122 = some false := by kernel_rfl
@[go_sem] theorem ty_122_713 : blksz Tryz.prog 122 = some 1 := by kernel_rfl
@[go_sem] theorem ty_123_714 : tsz Tryz.prog 123 = some 1 := by kernel_rfl
@[go_sem] theorem ty_123_715 : tbytes Tryz.prog 123 = some 8 := by kernel_rfl
@[go_sem] theorem ty_123_716 : tzero Tryz.prog 123 = some [.nilFunc] := by kernel_rfl
@[go_sem] theorem ty_123_717 : tagg Tryz.prog 123 = some false := by kernel_rfl
@[go_sem] theorem ty_123_718 : blksz Tryz.prog 123 = some 1 := by kernel_rfl
@[go_sem] theorem ty_124_719 : tsz Tryz.prog 124 = some 1 := by kernel_rfl
@[go_sem] theorem ty_124_720 : tbytes Tryz.prog 124 = some 8 := by kernel_rfl
@[go_sem] theorem ty_124_721 : tzero Tryz.prog 124 = some [.nilFunc] := by kernel_rfl
@[go_sem] theorem ty_124_722 : tagg Tryz.prog 124 = some false := by kernel_rfl
@[go_sem] theorem ty_124_723 : blksz Tryz.prog 124 = some 1 := by kernel_rfl
@[go_sem] theorem ty_125_724 : tsz Tryz.prog 125 = some 1 := by kernel_rfl
@[go_sem] theorem ty_125_725 : tbytes Tryz.prog 125 = some 8 := by kernel_rfl
@[go_sem] theorem ty_125_726 : tzero Tryz.prog 125 = some [.nilFunc] := by kernel_rfl
@[go_sem] theorem ty_125_727 : tagg Tryz.prog 125 = some false := by kernel_rfl
@[go_sem] theorem ty_125_728 : blksz Tryz.prog 125 = some 1 := by kernel_rfl
@[go_sem] theorem ty_126_729 : tsz Tryz.prog 126 = some 2 := by kernel_rfl
@[go_sem] theorem ty_126_730 : tbytes Tryz.prog 126 = some 16 := by kernel_rfl
@[go_sem] theorem ty_126_731 : tzero Tryz.prog 126 = some [.int .i64 0, .int .i64 0] := by kernel_rfl
@[go_sem] theorem ty_126_732 : tagg Tryz.prog 126 = some true := by kernel_rfl
@[go_sem] theorem ty_126_733 : tarr Tryz.prog 126 = none := by kernel_rfl
@[go_sem] theorem ty_126_734 : blksz Tryz.prog 126 = some 2 := by kernel_rfl
@[go_sem] theorem ty_126_735 : tplaces Tryz.prog 126 = some [(0, 1), (1, 1)] := by kernel_rfl
@[go_sem] theorem ty_126_736 : structK Tryz.prog 126 = some [1, 1] := by kernel_rfl
@[go_sem] theorem ty_126_737 : tfield Tryz.prog 126 0 = some (0, 3) := by kernel_rfl
@[go_sem] theorem ty_126_738 : tfield Tryz.prog 126 1 = some (1, 3) := by kernel_rfl
@[go_sem] theorem ty_127_739 : tsz Tryz.prog 127 = some 2 := by kernel_rfl
@[go_sem] theorem ty_127_740 : tbytes Tryz.prog 127 = some 16 := by kernel_rfl
@[go_sem] theorem ty_127_741 : tzero Tryz.prog 127 = some [.int .i64 0, .int .i64 0] := by kernel_rfl
@[go_sem] theorem ty_127_742 : tagg Tryz.prog 127 = some true := by kernel_rfl
@[go_sem] theorem ty_127_743 : tarr Tryz.prog 127 = none := by kernel_rfl
@[go_sem] theorem ty_127_744 : blksz Tryz.prog 127 = some 2 := by kernel_rfl
@[go_sem] theorem ty_127_745 : tplaces Tryz.prog 127 = some [(0, 1), (1, 1)] := by kernel_rfl
@[go_sem] theorem ty_127_746 : structK Tryz.prog 127 = some [1, 1] := by kernel_rfl
@[go_sem] theorem ty_127_747 : tfield Tryz.prog 127 0 = some (0, 3) := by kernel_rfl
@[go_sem] theorem ty_127_748 : tfield Tryz.prog 127 1 = some (1, 3) := by kernel_rfl
@[go_sem] theorem ty_128_749 : tsz Tryz.prog 128 = some 1 := by kernel_rfl
@[go_sem] theorem ty_128_750 : tbytes Tryz.prog 128 = some 8 := by kernel_rfl
@[go_sem] theorem ty_128_751 : tzero Tryz.prog 128 = some [.nilFunc] := by kernel_rfl
@[go_sem] theorem ty_128_752 : tagg Tryz.prog 128 = some false := by kernel_rfl
@[go_sem] theorem ty_128_753 : blksz Tryz.prog 128 = some 1 := by kernel_rfl
@[go_sem] theorem ty_129_754 : tsz Tryz.prog 129 = some 1 := by kernel_rfl
@[go_sem] theorem ty_129_755 : tbytes Tryz.prog 129 = some 8 := by kernel_rfl
@[go_sem] theorem ty_129_756 : tzero Tryz.prog 129 = some [.nilFunc] := by kernel_rfl
@[go_sem] theorem ty_129_757 : tagg Tryz.prog 129 = some false := by kernel_rfl
@[go_sem] theorem ty_129_758 : blksz Tryz.prog 129 = some 1 := by kernel_rfl
@[go_sem] theorem ty_130_759 : tsz Tryz.prog 130 = some 1 := by kernel_rfl
@[go_sem] theorem ty_130_760 : tbytes Tryz.prog 130 = some 8 := by kernel_rfl
@[go_sem] theorem ty_130_761 : tzero Tryz.prog 130 = some [.int .u64 0] := by kernel_rfl
@[go_sem] theorem ty_130_762 : tagg Tryz.prog 130 = some false := by kernel_rfl
@[go_sem] theorem ty_130_763 : tint Tryz.prog 130 = some .u64 := by kernel_rfl
@[go_sem] theorem ty_130_764 : blksz Tryz.prog 130 = some 1 := by kernel_rfl
@[go_sem] theorem ty_131_765 : tsz Tryz.prog 131 = some 1 := by kernel_rfl
@[go_sem] theorem ty_131_766 : tbytes Tryz.prog 131 = some 8 := by kernel_rfl
@[go_sem] theorem ty_131_767 : tzero Tryz.prog 131 = some [.nilFunc] := by kernel_rfl
@[go_sem] theorem ty_131_768 : tagg Tryz.prog 131 = some false := by kernel_rfl
@[go_sem] theorem ty_131_769 : blksz Tryz.prog 131 = some 1 := by kernel_rfl
@[go_sem] theorem ty_132_770 : tsz Tryz.prog 132 = some 1 := by kernel_rfl
@[go_sem] theorem ty_132_771 : tbytes Tryz.prog 132 = some 8 := by kernel_rfl
@[go_sem] theorem ty_132_772 : tzero Tryz.prog 132 = some [.nilFunc] := by kernel_rfl
@[go_sem] theorem ty_132_773 : tagg Tryz.prog 132 = some false := by kernel_rfl
@[go_sem] theorem ty_132_774 : blksz Tryz.prog 132 = some 1 := by kernel_rfl
@[go_sem] theorem ty_133_775 : tsz Tryz.prog 133 = some 1 := by kernel_rfl
@[go_sem] theorem ty_133_776 : tbytes Tryz.prog 133 = some 8 := by kernel_rfl
@[go_sem] theorem ty_133_777 : tzero Tryz.prog 133 = some [.nilFunc] := by kernel_rfl
@[go_sem] theorem ty_133_778 : tagg Tryz.prog 133 = some false := by kernel_rfl
@[go_sem] theorem ty_133_779 : blksz Tryz.prog 133 = some 1 := by kernel_rfl
@[go_sem] theorem ty_134_780 : tsz Tryz.prog 134 = some 1 := by kernel_rfl
@[go_sem] theorem ty_134_781 : tbytes Tryz.prog 134 = some 8 := by kernel_rfl
@[go_sem] theorem ty_134_782 : tzero Tryz.prog 134 = some [.nilFunc] := by kernel_rfl
@[go_sem] theorem ty_134_783 : tagg Tryz.prog 134 = some false := by kernel_rfl
@[go_sem] theorem ty_134_784 : blksz Tryz.prog 134 = some 1 := by kernel_rfl
@[go_sem] theorem ty_135_785 : tsz Tryz.prog 135 = some 1 := by kernel_rfl
@[go_sem] theorem ty_135_786 : tbytes Tryz.prog 135 = some 8 := by kernel_rfl
@[go_sem] theorem ty_135_787 : tzero Tryz.prog 135 = some [.nilFunc] := by kernel_rfl
@[go_sem] theorem ty_135_788 : tagg Tryz.prog 135 = some false := by kernel_rfl
@[go_sem] theorem ty_135_789 : blksz Tryz.prog 135 = some 1 := by kernel_rfl
@[go_sem] theorem ty_136_790 : tsz Tryz.prog 136 = some 1 := by kernel_rfl
@[go_sem] theorem ty_136_791 : tbytes Tryz.prog 136 = some 8 := by kernel_rfl
@[go_sem] theorem ty_136_792 : tzero Tryz.prog 136 = some [.nilFunc] := by kernel_rfl
@[go_sem] theorem ty_136_793 : tagg Tryz.prog 136 = some false := by kernel_rfl
@[go_sem] theorem ty_136_794 : blksz Tryz.prog 136 = some 1 := by kernel_rfl
@[go_sem] theorem ty_137_795 : tsz Tryz.prog 137 = some 1 := by kernel_rfl
@[go_sem] theorem ty_137_796 : tbytes Tryz.prog 137 = some 8 := by kernel_rfl
@[go_sem] theorem ty_137_797 : tzero Tryz.prog 137 = some [.nilFunc] := by kernel_rfl
@[go_sem] theorem ty_137_798 : tagg Tryz.prog 137 = some false := by kernel_rfl
@[go_sem] theorem ty_137_799 : blksz Tryz.prog 137 = some 1 := by kernel_rfl
@[go_sem] theorem ty_138_800 : tsz Tryz.prog 138 = some 1 := by kernel_rfl
@[go_sem] theorem ty_138_801 : tbytes Tryz.prog 138 = some 8 := by kernel_rfl
@[go_sem] theorem ty_138_802 : tzero Tryz.prog 138 = some [.nilFunc] := by kernel_rfl
@[go_sem] theorem ty_138_803 : tagg Tryz.prog 138 = some false := by kernel_rfl
@[go_sem] theorem ty_138_804 : blksz Tryz.prog 138 = some 1 := by kernel_rfl
@[go_sem] theorem ty_139_805 : tsz Tryz.prog 139 = some 1 := by kernel_rfl
@[go_sem] theorem ty_139_806 : tbytes Tryz.prog 139 = some 8 := by kernel_rfl
@[go_sem] theorem ty_139_807 : tzero Tryz.prog 139 = some [.nilFunc] := by kernel_rfl
@[go_sem] theorem ty_139_808 : tagg Tryz.prog 139 = some false := by kernel_rfl
@[go_sem] theorem ty_139_809 : blksz Tryz.prog 139 = some 1 := by kernel_rfl
@[go_sem] theorem ty_140_810 : tsz Tryz.prog 140 = some 1 := by kernel_rfl
@[go_sem] theorem ty_140_811 : tbytes Tryz.prog 140 = some 8 := by kernel_rfl
@[go_sem] theorem ty_140_812 : tzero Tryz.prog 140 = some [.nilFunc] := by kernel_rfl
@[go_sem] theorem ty_140_813 : tagg Tryz.prog 140 = some false := by kernel_rfl
@[go_sem] theorem ty_140_814 : blksz Tryz.prog 140 = some 1 := by kernel_rfl
@[go_sem] theorem ty_141_815 : tsz Tryz.prog 141 = some 1 := by kernel_rfl
@[go_sem] theorem ty_141_816 : tbytes Tryz.prog 141 = some 8 := by kernel_rfl
@[go_sem] theorem ty_141_817 : tzero Tryz.prog 141 = some [.nilFunc] := by kernel_rfl
@[go_sem] theorem ty_141_818 : tagg Tryz.prog 141 = some false := by kernel_rfl
@[go_sem] theorem ty_141_819 : blksz Tryz.prog 141 = some 1 := by kernel_rfl
@[go_sem] theorem ty_142_820 : tsz Tryz.prog 142 = some 1 := by kernel_rfl
@[go_sem] theorem ty_142_821 : tbytes Tryz.prog 142 = some 8 := by kernel_rfl
@[go_sem] theorem ty_142_822 : tzero Tryz.prog 142 = some [.nilFunc] := by kernel_rfl
@[go_sem] theorem ty_142_823 : tagg Tryz.prog 142 = some false := by kernel_rfl
@[go_sem] theorem ty_142_824 : blksz Tryz.prog 142 = some 1 := by kernel_rfl
@[go_sem] theorem ty_143_825 : tsz Tryz.prog 143 = some 1 := by kernel_rfl
@[go_sem] theorem ty_143_826 : tbytes Tryz.prog 143 = some 8 := by kernel_rfl
@[go_sem] theorem ty_143_827 : tzero Tryz.prog 143 = some [.nilFunc] := by kernel_rfl
@[go_sem] theorem ty_143_828 : tagg Tryz.prog 143 = some false := by kernel_rfl
@[go_sem] theorem ty_143_829 : blksz Tryz.prog 143 = some 1 := by kernel_rfl
@[go_sem] theorem ty_144_830 : tsz Tryz.prog 144 = some 1 := by kernel_rfl
@[go_sem] theorem ty_144_831 : tbytes Tryz.prog 144 = some 0 := by kernel_rfl
@[go_sem] theorem ty_144_832 : tagg Tryz.prog 144 = some false := by kernel_rfl
@[go_sem] theorem ty_144_833 : blksz Tryz.prog 144 = some 1 := by kernel_rfl
@[go_sem] theorem ty_145_834 : tsz Tryz.prog 145 = some 1 := by kernel_rfl
@[go_sem] theorem ty_145_835 : tbytes Tryz.prog 145 = some 8 := by kernel_rfl
@[go_sem] theorem ty_145_836 : tzero Tryz.prog 145 = some [.nilFunc] := by kernel_rfl
@[go_sem] theorem ty_145_837 : tagg Tryz.prog 145 = some false := by kernel_rfl
@[go_sem] theorem ty_145_838 : blksz Tryz.prog 145 = some 1 := by kernel_rfl
@[go_sem] theorem ty_146_839 : tsz Tryz.prog 146 = some 1 := by kernel_rfl
@[go_sem] theorem ty_146_840 : tbytes Tryz.prog 146 = some 8 := by kernel_rfl
@[go_sem] theorem ty_146_841 : tzero Tryz.prog 146 = some [.nilFunc] := by kernel_rfl
@[go_sem] theorem ty_146_842 : tagg Tryz.prog 146 = some false := by kernel_rfl
@[go_sem] theorem ty_146_843 : blksz Tryz.prog 146 = some 1 := by kernel_rfl
@[go_sem] theorem ty_147_844 : tsz Tryz.prog 147 = some 1 := by kernel_rfl
@[go_sem] theorem ty_147_845 : tbytes Tryz.prog 147 = some 8 := by kernel_rfl
@[go_sem] theorem ty_147_846 : tzero Tryz.prog 147 = some [.nilFunc] := by kernel_rfl
@[go_sem] theorem ty_147_847 : tagg Tryz.prog 147 = some false := by kernel_rfl
@[go_sem] theorem ty_147_848 : blksz Tryz.prog 147 = some 1 := by kernel_rfl
@[go_sem] theorem ty_148_849 : tsz Tryz.prog 148 = some 1 := by kernel_rfl
@[go_sem] theorem ty_148_850 : tbytes Tryz.prog 148 = some 8 := by kernel_rfl
@[go_sem] theorem ty_148_851 : tzero Tryz.prog 148 = some [.nilFunc] := by kernel_rfl
@[go_sem] theorem ty_148_852 : tagg Tryz.prog 148 = some false := by kernel_rfl
@[go_sem] theorem ty_148_853 : blksz Tryz.prog 148 = some 1 := by kernel_rfl
@[go_sem] theorem ty_149_854 : tsz Tryz.prog 149 = some 1 := by kernel_rfl
@[go_sem] theorem ty_149_855 : tbytes Tryz.prog 149 = some 8 := by kernel_rfl
@[go_sem] theorem ty_149_856 : tzero Tryz.prog 149 = some [.nilFunc] := by kernel_rfl
@[go_sem] theorem ty_149_857 : tagg Tryz.prog 149 = some false := by kernel_rfl
@[go_sem] theorem ty_149_858 : blksz Tryz.prog 149 = some 1 := by kernel_rfl
@[go_sem] theorem ty_150_859 : tsz Tryz.prog 150 = some 1 := by kernel_rfl
@[go_sem] theorem ty_150_860 : tbytes Tryz.prog 150 = some 8 := by kernel_rfl
@[go_sem] theorem ty_150_861 : tzero Tryz.prog 150 = some [.nilFunc] := by kernel_rfl
@[go_sem] theorem ty_150_862 : tagg Tryz.prog 150 = some false := by kernel_rfl
@[go_sem] theorem ty_150_863 : blksz Tryz.prog 150 = some 1 := by kernel_rfl
@[go_sem] theorem ty_151_864 : tsz Tryz.prog 151 = some 1 := by kernel_rfl
@[go_sem] theorem ty_151_865 : tbytes Tryz.prog 151 = some 8 := by kernel_rfl
@[go_sem] theorem ty_151_866 : tzero Tryz.prog 151 = some [.nilFunc] := by kernel_rfl
@[go_sem] theorem ty_151_867 : tagg Tryz.prog 151 = some false := by kernel_rfl
@[go_sem] theorem ty_151_868 : blksz Tryz.prog 151 = some 1 := by kernel_rfl
@[go_sem] theorem ty_152_869 : tsz Tryz.prog 152 = some 1 := by kernel_rfl
@[go_sem] theorem ty_152_870 : tbytes Tryz.prog 152 = some 0 := by kernel_rfl
@[go_sem] theorem ty_152_871 : tagg Tryz.prog 152 = some false := by kernel_rfl
@[go_sem] theorem ty_152_872 : blksz Tryz.prog 152 = some 1 := by kernel_rfl
@[go_sem] theorem ty_153_873 : tsz Tryz.prog 153 = some 1 := by kernel_rfl
@[go_sem] theorem ty_153_874 : tbytes Tryz.prog 153 = some 8 := by kernel_rfl
@[go_sem] theorem ty_153_875 : tzero Tryz.prog 153 = some [.nilFunc] := by kernel_rfl
@[go_sem] theorem ty_153_876 : tagg Tryz.prog 153 = some false := by kernel_rfl
@[go_sem] theorem ty_153_877 : blksz Tryz.prog 153 = some 1 := by kernel_rfl
@[go_sem] theorem ty_154_878 : tsz Tryz.prog 154 = some 1 := by kernel_rfl
@[go_sem] theorem ty_154_879 : tbytes Tryz.prog 154 = some 8 := by kernel_rfl
@[go_sem] theorem ty_154_880 : tzero Tryz.prog 154 = some [.nilFunc] := by kernel_rfl
@[go_sem] theorem ty_154_881 : tagg Tryz.prog 154 = some false := by kernel_rfl
@[go_sem] theorem ty_154_882 : blksz Tryz.prog 154 = some 1 := by kernel_rfl
@[go_sem] theorem ty_155_883 : tsz Tryz.prog 155 = some 1 := by kernel_rfl
@[go_sem] theorem ty_155_884 : tbytes Tryz.prog 155 = some 8 := by kernel_rfl
@[go_sem] theorem ty_155_885 : tzero Tryz.prog 155 = some [.nilFunc] := by kernel_rfl
@[go_sem] theorem ty_155_886 : tagg Tryz.prog 155 = some false := by kernel_rfl
@[go_sem] theorem ty_155_887 : blksz Tryz.prog 155 = some 1 := by kernel_rfl
@[go_sem] theorem ty_156_888 : tsz Tryz.prog 156 = some 1 := by kernel_rfl
@[go_sem] theorem ty_156_889 : tbytes Tryz.prog 156 = some 8 := by kernel_rfl
@[go_sem] theorem ty_156_890 : tzero Tryz.prog 156 = some [.nilFunc] := by kernel_rfl
@[go_sem] theorem ty_156_891 : tagg Tryz.prog 156 = some false := by kernel_rfl
@[go_sem] theorem ty_156_892 : blksz Tryz.prog 156 = some 1 := by kernel_rfl
@[go_sem] theorem ty_157_893 : tsz Tryz.prog 157 = some 1 := by kernel_rfl
@[go_sem] theorem ty_157_894 : tbytes Tryz.prog 157 = some 8 := by kernel_rfl
@[go_sem] theorem ty_157_895 : tzero Tryz.prog 157 = some [.nilFunc] := by kernel_rfl
@[go_sem] theorem ty_157_896 : tagg Tryz.prog 157 = some false := by kernel_rfl
@[go_sem] theorem ty_157_897 : blksz Tryz.prog 157 = some 1 := by kernel_rfl
@[go_sem] theorem ty_158_898 : tsz Tryz.prog 158 = some 1 := by kernel_rfl
@[go_sem] theorem ty_158_899 : tbytes Tryz.prog 158 = some 8 := by kernel_rfl
@[go_sem] theorem ty_158_900 : tzero Tryz.prog 158 = some [.nilFunc] := by kernel_rfl
@[go_sem] theorem ty_158_901 : tagg Tryz.prog 158 = some false := by kernel_rfl
@[go_sem] theorem ty_158_902 : blksz Tryz.prog 158 = some 1 := by kernel_rfl
@[go_sem] theorem ty_159_903 : tsz Tryz.prog 159 = some 1 := by kernel_rfl
@[go_sem] theorem ty_159_904 : tbytes Tryz.prog 159 = some 8 := by kernel_rfl
@[go_sem] theorem ty_159_905 : tzero Tryz.prog 159 = some [.nilFunc] := by kernel_rfl
@[go_sem] theorem ty_159_906 : tagg Tryz.prog 159 = some false := by kernel_rfl
@[go_sem] theorem ty_159_907 : blksz Tryz.prog 159 = some 1 := by kernel_rfl
@[go_sem] theorem ty_160_908 : tsz Tryz.prog 160 = some 1 := by kernel_rfl
@[go_sem] theorem ty_160_909 : tbytes Tryz.prog 160 = some 8 := by kernel_rfl
@[go_sem] theorem ty_160_910 : tzero Tryz.prog 160 = some [.nilFunc] := by kernel_rfl
@[go_sem] theorem ty_160_911 : tagg Tryz.prog 160 = some false := by kernel_rfl
@[go_sem] theorem ty_160_912 : blksz Tryz.prog 160 = some 1 := by kernel_rfl
@[go_sem] theorem ty_161_913 : tsz Tryz.prog 161 = some 1 := by kernel_rfl
@[go_sem] theorem ty_161_914 : tbytes Tryz.prog 161 = some 8 := by kernel_rfl
@[go_sem] theorem ty_161_915 : tzero Tryz.prog 161 = some [.nilFunc] := by kernel_rfl
@[go_sem] theorem ty_161_916 : tagg Tryz.prog 161 = some false := by kernel_rfl
@[go_sem] theorem ty_161_917 : blksz Tryz.prog 161 = some 1 := by kernel_rfl
@[go_sem] theorem ty_162_918 : tsz Tryz.prog 162 = some 1 := by kernel_rfl
@[go_sem] theorem ty_162_919 : tbytes Tryz.prog 162 = some 8 := by kernel_rfl
@[go_sem] theorem ty_162_920 : tzero Tryz.prog 162 = some [.nilFunc] := by kernel_rfl
@[go_sem] theorem ty_162_921 : tagg Tryz.prog 162 = some false := by kernel_rfl
@[go_sem] theorem ty_162_922 : blksz Tryz.prog 162 = some 1 := by kernel_rfl
@[go_sem] theorem ty_163_923 : tsz Tryz.prog 163 = some 1 := by kernel_rfl
@[go_sem] theorem ty_163_924 : tbytes Tryz.prog 163 = some 8 := by kernel_rfl
@[go_sem] theorem ty_163_925 : tzero Tryz.prog 163 = some [.nilFunc] := by kernel_rfl
@[go_sem] theorem ty_163_926 : tagg Tryz.prog 163 = some false := by kernel_rfl
@[go_sem] theorem ty_163_927 : blksz Tryz.prog 163 = some 1 := by kernel_rfl
@[go_sem] theorem ty_164_928 : tsz Tryz.prog 164 = some 1 := by kernel_rfl
@[go_sem] theorem ty_164_929 : tbytes Tryz.prog 164 = some 8 := by kernel_rfl
@[go_sem] theorem ty_164_930 : tzero Tryz.prog 164 = some [.nilFunc] := by kernel_rfl
@[go_sem] theorem ty_164_931 : tagg Tryz.prog 164 = some false := by kernel_rfl
@[go_sem] theorem ty_164_932 : blksz Tryz.prog 164 = some 1 := by kernel_rfl
@[go_sem] theorem ty_165_933 : tsz Tryz.prog 165 = some 24 := by kernel_rfl
@[go_sem] theorem ty_165_934 : tbytes Tryz.prog 165 = some 24 := by kernel_rfl
@[go_sem] theorem ty_165_935 : tzero Tryz.prog 165 = some [.bool false, .bool false, .bool false, .bool false, .bool false, .bool false, .bool false, .bool false, .bool false, .bool false, .bool false, .bool false, .bool false, .bool false, .bool false, .bool false, .bool false, .bool false, .bool false, .bool false, .bool false, .bool false, .bool false, .bool false] := by kernel_rfl
@[go_sem] theorem ty_165_936 : tagg Tryz.prog 165 = some true := by kernel_rfl
@[go_sem] theorem ty_165_937 : tarr Tryz.prog 165 = some (24, 4) := by kernel_rfl
@[go_sem] theorem ty_165_938 : blksz Tryz.prog 165 = some 1 := by kernel_rfl
@[go_sem] theorem ty_165_939 : tplaces Tryz.prog 165 = none := by kernel_rfl
@[go_sem] theorem ty_166_940 : tsz Tryz.prog 166 = some 1 := by kernel_rfl
@[go_sem] theorem ty_166_941 : tbytes Tryz.prog 166 = some 8 := by kernel_rfl
@[go_sem] theorem ty_166_942 : tzero Tryz.prog 166 = some [.nilFunc] := by kernel_rfl
@[go_sem] theorem ty_166_943 : tagg Tryz.prog 166 = some false := by kernel_rfl
@[go_sem] theorem ty_166_944 : blksz Tryz.prog 166 = some 1 := by kernel_rfl
@[go_sem] theorem ty_167_945 : tsz Tryz.prog 167 = some 1 := by kernel_rfl
@[go_sem] theorem ty_167_946 : tbytes Tryz.prog 167 = some 8 := by kernel_rfl
@[go_sem] theorem ty_167_947 : tzero Tryz.prog 167 = some [.nilFunc] := by kernel_rfl
@[go_sem] theorem ty_167_948 : tagg Tryz.prog 167 = some false := by kernel_rfl
@[go_sem] theorem ty_167_949 : blksz Tryz.prog 167 = some 1 := by kernel_rfl
@[go_sem] theorem ty_168_950 : tsz Tryz.prog 168 = some 1 := by kernel_rfl
@[go_sem] theorem ty_168_951 : tbytes Tryz.prog 168 = some 0 := by kernel_rfl
@[go_sem] theorem ty_168_952 : tagg Tryz.prog 168 = some false := by kernel_rfl
@[go_sem] theorem ty_168_953 : blksz Tryz.prog 168 = some 1 := by kernel_rfl
@[go_sem] theorem ty_169_954 : tsz Tryz.prog 169 = some 1 := by kernel_rfl
@[go_sem] theorem ty_169_955 : tbytes Tryz.prog 169 = some 8 := by kernel_rfl
@[go_sem] theorem ty_169_956 : tzero Tryz.prog 169 = some [.nilFunc] := by kernel_rfl
@[go_sem] theorem ty_169_957 : tagg Tryz.prog 169 = some false := by kernel_rfl
@[go_sem] theorem ty_169_958 : blksz Tryz.prog 169 = some 1 := by kernel_rfl
@[go_sem] theorem ty_170_959 : tsz Tryz.prog 170 = some 1 := by kernel_rfl
@[go_sem] theorem ty_170_960 : tbytes Tryz.prog 170 = some 24 := by kernel_rfl
@[go_sem] theorem ty_170_961 : tzero Tryz.prog 170 = some [.slice none 0 0] := by kernel_rfl
@[go_sem] theorem ty_170_962 : tagg Tryz.prog 170 = some false := by kernel_rfl
@[go_sem] theorem ty_170_963 : telem Tryz.prog 170 = some 32 := by kernel_rfl
@[go_sem] theorem ty_170_964 : tstr Tryz.prog 170 = false := by kernel_rfl
@[go_sem] theorem ty_170_965 : blksz Tryz.prog 170 = some 1 := by kernel_rfl
@[go_sem] theorem ty_171_966 : tsz Tryz.prog 171 = some 1 := by kernel_rfl
@[go_sem] theorem ty_171_967 : tbytes Tryz.prog 171 = some 8 := by kernel_rfl
@[go_sem] theorem ty_171_968 : tzero Tryz.prog 171 = some [.nilFunc] := by kernel_rfl
@[go_sem] theorem ty_171_969 : tagg Tryz.prog 171 = some false := by kernel_rfl
@[go_sem] theorem ty_171_970 : blksz Tryz.prog 171 = some 1 := by kernel_rfl
@[go_sem] theorem ty_172_971 : tsz Tryz.prog 172 = some 1 := by kernel_rfl
@[go_sem] theorem ty_172_972 : tbytes Tryz.prog 172 = some 8 := by kernel_rfl
@[go_sem] theorem ty_172_973 : tzero Tryz.prog 172 = some [.nilFunc] := by kernel_rfl
@[go_sem] theorem ty_172_974 : tagg Tryz.prog 172 = some false := by kernel_rfl
@[go_sem] theorem ty_172_975 : blksz Tryz.prog 172 = some 1 := by kernel_rfl
@[go_sem] theorem ty_173_976 : tsz Tryz.prog 173 = some 1 := by kernel_rfl
@[go_sem] theorem ty_173_977 : tbytes Tryz.prog 173 = some 8 := by kernel_rfl
@[go_sem] theorem ty_173_978 : tzero Tryz.prog 173 = some [.nilFunc] := by kernel_rfl
@[go_sem] theorem ty_173_979 : tagg Tryz.prog 173 = some false := by kernel_rfl
@[go_sem] theorem ty_173_980 : blksz Tryz.prog 173 = some 1 := by kernel_rfl
@[go_sem] theorem ty_174_981 : tsz Tryz.prog 174 = some 1 := by kernel_rfl
@[go_sem] theorem ty_174_982 : tbytes Tryz.prog 174 = some 8 := by kernel_rfl
@[go_sem] theorem ty_174_983 : tzero Tryz.prog 174 = some [.nilFunc] := by kernel_rfl
@[go_sem] theorem ty_174_984 : tagg Tryz.prog 174 = some false := by kernel_rfl
@[go_sem] theorem ty_174_985 : blksz Tryz.prog 174 = some 1 := by kernel_rfl
@[go_sem] theorem ty_175_986 : tsz Tryz.prog 175 = some 65 := by kernel_rfl
@[go_sem] theorem ty_175_987 : tbytes Tryz.prog 175 = some 65 := by kernel_rfl
@[go_sem] theorem ty_175_988 : tzero Tryz.prog 175 = some [.bool false, .bool false, .bool false, .bool false, .bool false, .bool false, .bool false, .bool false, .bool false, .bool false, .bool false, .bool false, .bool false, .bool false, .bool false, .bool false, .bool false, .bool false, .bool false, .bool false, .bool false, .bool false, .bool false, .bool false, .bool false, .bool false, .bool false, .bool false, .bool false, .bool false, .bool false, .bool false, .bool false, .bool false, .bool false, .bool false, .bool false, .bool false, .bool false, .bool false, .bool false, .bool false, .bool false, .bool false, .bool false, .bool false, .bool false, .bool false, .bool false, .bool false, .bool false, .bool false, .bool false, .bool false, .bool false, .bool false, .bool false, .bool false, .bool false, .bool false, .bool false, .bool false, .bool false, .bool false, .bool false] := by kernel_rfl
@[go_sem] theorem ty_175_989 : tagg Tryz.prog 175 = some true := by kernel_rfl
@[go_sem] theorem ty_175_990 : tarr Tryz.prog 175 = some (65, 4) := by kernel_rfl
@[go_sem] theorem ty_175_991 : blksz Tryz.prog 175 = some 1 := by kernel_rfl
@[go_sem] theorem ty_175_992 : tplaces Tryz.prog 175 = none := by kernel_rfl
@[go_sem] theorem ty_176_993 : tsz Tryz.prog 176 = some 1 := by kernel_rfl
@[go_sem] theorem ty_176_994 : tbytes Tryz.prog 176 = some 8 := by kernel_rfl
@[go_sem] theorem ty_176_995 : tzero Tryz.prog 176 = some [.nilFunc] := by kernel_rfl
@[go_sem] theorem ty_176_996 : tagg Tryz.prog 176 = some false := by kernel_rfl
@[go_sem] theorem ty_176_997 : blksz Tryz.prog 176 = some 1 := by kernel_rfl
@[go_sem] theorem ty_177_998 : tsz Tryz.prog 177 = some 1 := by kernel_rfl
@[go_sem] theorem ty_177_999 : tbytes Tryz.prog 177 = some 24 := by kernel_rfl
@[go_sem] theorem ty_177_1000 : tzero Tryz.prog 177 = some [.slice none 0 0] := by kernel_rfl
@[go_sem] theorem ty_177_1001 : tagg Tryz.prog 177 = some false := by kernel_rfl
@[go_sem] theorem ty_177_1002 : telem Tryz.prog 177 = some 4 := by kernel_rfl
@[go_sem] theorem ty_177_1003 : tstr Tryz.prog 177 = false := by kernel_rfl
@[go_sem] theorem ty_177_1004 : blksz Tryz.prog 177 = some 1 := by kernel_rfl
@[go_sem] theorem ty_178_1005 : tsz Tryz.prog 178 = some 1 := by kernel_rfl
@[go_sem] theorem ty_178_1006 : tbytes Tryz.prog 178 = some 8 := by kernel_rfl
@[go_sem] theorem ty_178_1007 : tzero Tryz.prog 178 = some [.nilFunc] := by kernel_rfl
@[go_sem] theorem ty_178_1008 : tagg Tryz.prog 178 = some false := by kernel_rfl
@[go_sem] theorem ty_178_1009 : blksz Tryz.prog 178 = some 1 := by kernel_rfl
@[go_sem] theorem ty_179_1010 : tsz Tryz.prog 179 = some 1 := by kernel_rfl
@[go_sem] theorem ty_179_1011 : tbytes Tryz.prog 179 = some 8 := by kernel_rfl
@[go_sem] theorem ty_179_1012 : tzero Tryz.prog 179 = some [.nilFunc] := by kernel_rfl
@[go_sem] theorem ty_179_1013 : tagg Tryz.prog 179 = some false := by kernel_rfl
@[go_sem] theorem ty_179_1014 : blksz Tryz.prog 179 = some 1 := by kernel_rfl
@[go_sem] theorem ty_180_1015 : tsz Tryz.prog 180 = some 1 := by kernel_rfl
@[go_sem] theorem ty_180_1016 : tbytes Tryz.prog 180 = some 8 := by kernel_rfl
@[go_sem] theorem ty_180_1017 : tzero Tryz.prog 180 = some [.nilFunc] := by kernel_rfl
@[go_sem] theorem ty_180_1018 : tagg Tryz.prog 180 = some false := by kernel_rfl
@[go_sem] theorem ty_180_1019 : blksz Tryz.prog 180 = some 1 := by kernel_rfl
@[go_sem] theorem ty_181_1020 : tsz Tryz.prog 181 = some 1 := by kernel_rfl
@[go_sem] theorem ty_181_1021 : tbytes Tryz.prog 181 = some 8 := by kernel_rfl
@[go_sem] theorem ty_181_1022 : tzero Tryz.prog 181 = some [.nilFunc] := by kernel_rfl
@[go_sem] theorem ty_181_1023 : tagg Tryz.prog 181 = some false := by kernel_rfl
@[go_sem] theorem ty_181_1024 : blksz Tryz.prog 181 = some 1 := by kernel_rfl
@[go_sem] theorem ty_182_1025 : tsz Tryz.prog 182 = some 1 := by kernel_rfl
@[go_sem] theorem ty_182_1026 : tbytes Tryz.prog 182 = some 8 := by kernel_rfl
@[go_sem] theorem ty_182_1027 : tzero Tryz.prog 182 = some [.nilFunc] := by kernel_rfl
@[go_sem] theorem ty_182_1028 : tagg Tryz.prog 182 = some false := by kernel_rfl
@[go_sem] theorem ty_182_1029 : blksz Tryz.prog 182 = some 1 := by kernel_rfl
@[go_sem] theorem ty_183_1030 : tsz Tryz.prog 183 = some 1 := by kernel_rfl
@[go_sem] theorem ty_183_1031 : tbytes Tryz.prog 183 = some 8 := by kernel_rfl
@[go_sem] theorem ty_183_1032 : tzero Tryz.prog 183 = some [.nilFunc] := by kernel_rfl
@[go_sem] theorem ty_183_1033 : tagg Tryz.prog 183 = some false := by kernel_rfl
@[go_sem] theorem ty_183_1034 : blksz Tryz.prog 183 = some 1 := by kernel_rfl
@[go_sem] theorem ty_184_1035 : tsz Tryz.prog 184 = some 1 := by kernel_rfl
@[go_sem] theorem ty_184_1036 : tbytes Tryz.prog 184 = some 8 := by kernel_rfl
@[go_sem] theorem ty_184_1037 : tzero Tryz.prog 184 = some [.nilFunc] := by kernel_rfl
@[go_sem] theorem ty_184_1038 : tagg Tryz.prog 184 = some false := by kernel_rfl
@[go_sem] theorem ty_184_1039 : blksz Tryz.prog 184 = some 1 := by kernel_rfl
@[go_sem] theorem ty_185_1040 : tsz Tryz.prog 185 = some 1 := by kernel_rfl
@[go_sem] theorem ty_185_1041 : tbytes Tryz.prog 185 = some 8 := by kernel_rfl
@[go_sem] theorem ty_185_1042 : tzero Tryz.prog 185 = some [.int .u64 0] := by kernel_rfl
@[go_sem] theorem ty_185_1043 : tagg Tryz.prog 185 = some false := by kernel_rfl
@[go_sem] theorem ty_185_1044 : tint Tryz.prog 185 = some .u64 := by kernel_rfl
@[go_sem] theorem ty_185_1045 : blksz Tryz.prog 185 = some 1 := by kernel_rfl
@[go_sem] theorem ty_186_1046 : tsz Tryz.prog 186 = some 1 := by kernel_rfl
@[go_sem] theorem ty_186_1047 : tbytes Tryz.prog 186 = some 24 := by kernel_rfl
@[go_sem] theorem ty_186_1048 : tzero Tryz.prog 186 = some [.slice none 0 0] := by kernel_rfl
@[go_sem] theorem ty_186_1049 : tagg Tryz.prog 186 = some false := by kernel_rfl
@[go_sem] theorem ty_186_1050 : telem Tryz.prog 186 = some 130 := by kernel_rfl
@[go_sem] theorem ty_186_1051 : tstr Tryz.prog 186 = false := by kernel_rfl
@[go_sem] theorem ty_186_1052 : blksz Tryz.prog 186 = some 1 := by kernel_rfl
@[go_sem] theorem ty_187_1053 : tsz Tryz.prog 187 = some 1 := by kernel_rfl
@[go_sem] theorem ty_187_1054 : tbytes Tryz.prog 187 = some 8 := by kernel_rfl
@[go_sem] theorem ty_187_1055 : tzero Tryz.prog 187 = some [.nilFunc] := by kernel_rfl
@[go_sem] theorem ty_187_1056 : tagg Tryz.prog 187 = some false := by kernel_rfl
@[go_sem] theorem ty_187_1057 : blksz Tryz.prog 187 = some 1 := by kernel_rfl
@[go_sem] theorem ty_188_1058 : tsz Tryz.prog 188 = some 1 := by kernel_rfl
@[go_sem] theorem ty_188_1059 : tbytes Tryz.prog 188 = some 8 := by kernel_rfl
@[go_sem] theorem ty_188_1060 : tzero Tryz.prog 188 = some [.nilFunc] := by kernel_rfl
@[go_sem] theorem ty_188_1061 : tagg Tryz.prog 188 = some false := by kernel_rfl
@[go_sem] theorem ty_188_1062 : blksz Tryz.prog 188 = some 1 := by kernel_rfl
@[go_sem] theorem ty_189_1063 : tsz Tryz.prog 189 = some 1 := by kernel_rfl
@[go_sem] theorem ty_189_1064 : tbytes Tryz.prog 189 = some 8 := by kernel_rfl
@[go_sem] theorem ty_189_1065 : tzero Tryz.prog 189 = some [.nilFunc] := by kernel_rfl
@[go_sem] theorem ty_189_1066 : tagg Tryz.prog 189 = some false := by kernel_rfl
@[go_sem] theorem ty_189_1067 : blksz Tryz.prog 189 = some 1 := by kernel_rfl
@[go_sem] theorem ty_190_1068 : tsz Tryz.prog 190 = some 1 := by kernel_rfl
@[go_sem] theorem ty_190_1069 : tbytes Tryz.prog 190 = some 8 := by kernel_rfl
@[go_sem] theorem ty_190_1070 : tzero Tryz.prog 190 = some [.nilFunc] := by kernel_rfl
@[go_sem] theorem ty_190_1071 : tagg Tryz.prog 190 = some false := by kernel_rfl
@[go_sem] theorem ty_190_1072 : blksz Tryz.prog 190 = some 1 := by kernel_rfl
@[go_sem] theorem ty_191_1073 : tsz Tryz.prog 191 = some 1 := by kernel_rfl
@[go_sem] theorem ty_191_1074 : tbytes Tryz.prog 191 = some 8 := by kernel_rfl
@[go_sem] theorem ty_191_1075 : tzero Tryz.prog 191 = some [.nilFunc] := by kernel_rfl
@[go_sem] theorem ty_191_1076 : tagg Tryz.prog 191 = some false := by kernel_rfl
@[go_sem] theorem ty_191_1077 : blksz Tryz.prog 191 = some 1 := by kernel_rfl
@[go_sem] theorem ty_192_1078 : tsz Tryz.prog 192 = some 1 := by kernel_rfl
@[go_sem] theorem ty_192_1079 : tbytes Tryz.prog 192 = some 8 := by kernel_rfl
@[go_sem] theorem ty_192_1080 : tzero Tryz.prog 192 = some [.nilFunc] := by kernel_rfl
@[go_sem] theorem ty_192_1081 : tagg Tryz.prog 192 = some false := by kernel_rfl
@[go_sem] theorem ty_192_1082 : blksz Tryz.prog 192 = some 1 := by kernel_rfl
@[go_sem] theorem ty_193_1083 : tsz Tryz.prog 193 = some 1 := by kernel_rfl
@[go_sem] theorem ty_193_1084 : tbytes Tryz.prog 193 = some 8 := by kernel_rfl
@[go_sem] theorem ty_193_1085 : tzero Tryz.prog 193 = some [.nilFunc] := by kernel_rfl
@[go_sem] theorem ty_193_1086 : tagg Tryz.prog 193 = some false := by kernel_rfl
@[go_sem] theorem ty_193_1087 : blksz Tryz.prog 193 = some 1 := by kernel_rfl
@[go_sem] theorem ty_194_1088 : tsz Tryz.prog 194 = some 1 := by kernel_rfl
@[go_sem] theorem ty_194_1089 : tbytes Tryz.prog 194 = some 0 := by kernel_rfl
@[go_sem] theorem ty_194_1090 : tagg Tryz.prog 194 = some false := by kernel_rfl
@[go_sem] theorem ty_194_1091 : blksz Tryz.prog 194 = some 1 := by kernel_rfl
@[go_sem] theorem ty_195_1092 : tsz Tryz.prog 195 = some 1 := by kernel_rfl
@[go_sem] theorem ty_195_1093 : tbytes Tryz.prog 195 = some 8 := by kernel_rfl
@[go_sem] theorem ty_195_1094 : tzero Tryz.prog 195 = some [.nilFunc] := by kernel_rfl
@[go_sem] theorem ty_195_1095 : tagg Tryz.prog 195 = some false := by kernel_rfl
@[go_sem] theorem ty_195_1096 : blksz Tryz.prog 195 = some 1 := by kernel_rfl
@[go_sem] theorem ty_196_1097 : tsz Tryz.prog 196 = some 1 := by kernel_rfl
@[go_sem] theorem ty_196_1098 : tbytes Tryz.prog 196 = some 8 := by kernel_rfl
@[go_sem] theorem ty_196_1099 : tzero Tryz.prog 196 = some [.nilFunc] := by kernel_rfl
@[go_sem] theorem ty_196_1100 : tagg Tryz.prog 196 = some false := by kernel_rfl
@[go_sem] theorem ty_196_1101 : blksz Tryz.prog 196 = some 1 := by kernel_rfl
@[go_sem] theorem ty_197_1102 : tsz Tryz.prog 197 = some 1 := by kernel_rfl
@[go_sem] theorem ty_197_1103 : tbytes Tryz.prog 197 = some 8 := by kernel_rfl
@[go_sem] theorem ty_197_1104 : tzero Tryz.prog 197 = some [.nilFunc] := by kernel_rfl
@[go_sem] theorem ty_197_1105 : tagg Tryz.prog 197 = some false := by kernel_rfl
@[go_sem] theorem ty_197_1106 : blksz Tryz.prog 197 = some 1 := by kernel_rfl
@[go_sem] theorem ty_198_1107 : tsz Tryz.prog 198 = some 1 := by kernel_rfl
@[go_sem] theorem ty_198_1108 : tbytes Tryz.prog 198 = some 8 := by kernel_rfl
@[go_sem] theorem ty_198_1109 : tzero Tryz.prog 198 = some [.nilFunc] := by kernel_rfl
@[go_sem] theorem ty_198_1110 : tagg Tryz.prog 198 = some false := by kernel_rfl
@[go_sem] theorem ty_198_1111 : blksz Tryz.prog 198 = some 1 := by kernel_rfl
@[go_sem] theorem ty_199_1112 : tsz Tryz.prog 199 = some 1 := by kernel_rfl
@[go_sem] theorem ty_199_1113 : tbytes Tryz.prog 199 = some 0 := by kernel_rfl
@[go_sem] theorem ty_199_1114 : tagg Tryz.prog 199 = some false := by kernel_rfl
@[go_sem] theorem ty_199_1115 : blksz Tryz.prog 199 = some 1 := by kernel_rfl
@[go_sem] theorem ty_200_1116 : tsz Tryz.prog 200 = some 1 := by kernel_rfl
@[go_sem] theorem ty_200_1117 : tbytes Tryz.prog 200 = some 8 := by kernel_rfl
@[go_sem] theorem ty_200_1118 : tzero Tryz.prog 200 = some [.nilFunc] := by kernel_rfl
@[go_sem] theorem ty_200_1119 : tagg Tryz.prog 200 = some false := by kernel_rfl
@[go_sem] theorem ty_200_1120 : blksz Tryz.prog 200 = some 1 := by kernel_rfl
@[go_sem] theorem ty_201_1121 : tsz Tryz.prog 201 = some 1 := by kernel_rfl
@[go_sem] theorem ty_201_1122 : tbytes Tryz.prog 201 = some 8 := by kernel_rfl
@[go_sem] theorem ty_201_1123 : tzero Tryz.prog 201 = some [.nilFunc] := by kernel_rfl
@[go_sem] theorem ty_201_1124 : tagg Tryz.prog 201 = some false := by kernel_rfl
@[go_sem] theorem ty_201_1125 : blksz Tryz.prog 201 = some 1 := by kernel_rfl
@[go_sem] theorem ty_202_1126 : tsz Tryz.prog 202 = some 1 := by kernel_rfl
@[go_sem] theorem ty_202_1127 : tbytes Tryz.prog 202 = some 8 := by kernel_rfl
@[go_sem] theorem ty_202_1128 : tzero Tryz.prog 202 = some [.nilFunc] := by kernel_rfl
@[go_sem] theorem ty_202_1129 : tagg Tryz.prog 202 = some false := by kernel_rfl
@[go_sem] theorem ty_202_1130 : blksz Tryz.prog 202 = some 1 := by kernel_rfl
@[go_sem] theorem ty_203_1131 : tsz Tryz.prog 203 = some 1 := by kernel_rfl
@[go_sem] theorem ty_203_1132 : tbytes Tryz.prog 203 = some 8 := by kernel_rfl
@[go_sem] theorem ty_203_1133 : tzero Tryz.prog 203 = some [.nilFunc] := by kernel_rfl
@[go_sem] theorem ty_203_1134 : tagg Tryz.prog 203 = some false := by kernel_rfl
@[go_sem] theorem ty_203_1135 : blksz Tryz.prog 203 = some 1 := by kernel_rfl
@[go_sem] theorem ty_204_1136 : tsz Tryz.prog 204 = some 1 := by kernel_rfl
@[go_sem] theorem ty_204_1137 : tbytes Tryz.prog 204 = some 8 := by kernel_rfl
@[go_sem] theorem ty_204_1138 : tzero Tryz.prog 204 = some [.nilFunc] := by kernel_rfl
@[go_sem] theorem ty_204_1139 : tagg Tryz.prog 204 = some false := by kernel_rfl
@[go_sem] theorem ty_204_1140 : blksz Tryz.prog 204 = some 1 := by kernel_rfl
@[go_sem] theorem ty_205_1141 : tsz Tryz.prog 205 = some 1 := by kernel_rfl
@[go_sem] theorem ty_205_1142 : tbytes Tryz.prog 205 = some 0 := by kernel_rfl
@[go_sem] theorem ty_205_1143 : tagg Tryz.prog 205 = some false := by kernel_rfl
@[go_sem] theorem ty_205_1144 : blksz Tryz.prog 205 = some 1 := by kernel_rfl
@[go_sem] theorem ty_206_1145 : tsz Tryz.prog 206 = some 1 := by kernel_rfl
@[go_sem] theorem ty_206_1146 : tbytes Tryz.prog 206 = some 8 := by kernel_rfl
@[go_sem] theorem ty_206_1147 : tzero Tryz.prog 206 = some [.nilFunc] := by kernel_rfl
@[go_sem] theorem ty_206_1148 : tagg Tryz.prog 206 = some false := by kernel_rfl
@[go_sem] theorem ty_206_1149 : blksz Tryz.prog 206 = some 1 := by kernel_rfl
@[go_sem] theorem ty_207_1150 : tsz Tryz.prog 207 = some 1 := by kernel_rfl
@[go_sem] theorem ty_207_1151 : tbytes Tryz.prog 207 = some 0 := by kernel_rfl
@[go_sem] theorem ty_207_1152 : tagg Tryz.prog 207 = some false := by kernel_rfl
@[go_sem] theorem ty_207_1153 : blksz Tryz.prog 207 = some 1 := by kernel_rfl
@[go_sem] theorem ty_208_1154 : tsz Tryz.prog 208 = some 1 := by kernel_rfl
@[go_sem] theorem ty_208_1155 : tbytes Tryz.prog 208 = some 8 := by kernel_rfl
@[go_sem] theorem ty_208_1156 : tzero Tryz.prog 208 = some [.nilFunc] := by kernel_rfl
@[go_sem] theorem ty_208_1157 : tagg Tryz.prog 208 = some false := by kernel_rfl
@[go_sem] theorem ty_208_1158 : blksz Tryz.prog 208 = some 1 := by kernel_rfl
@[go_sem] theorem ty_209_1159 : tsz Tryz.prog 209 = some 1 := by kernel_rfl
@[go_sem] theorem ty_209_1160 : tbytes Tryz.prog 209 = some 8 := by kernel_rfl
@[go_sem] theorem ty_209_1161 : tzero Tryz.prog 209 = some [.nilFunc] := by kernel_rfl
@[go_sem] theorem ty_209_1162 : tagg Tryz.prog 209 = some false := by kernel_rfl
@[go_sem] theorem ty_209_1163 : blksz Tryz.prog 209 = some 1 := by kernel_rfl
@[go_sem] theorem ty_210_1164 : tsz Tryz.prog 210 = some 1 := by kernel_rfl
@[go_sem] theorem ty_210_1165 : tbytes Tryz.prog 210 = some 8 := by kernel_rfl
@[go_sem] theorem ty_210_1166 : tzero Tryz.prog 210 = some [.nilFunc] := by kernel_rfl
@[go_sem] theorem ty_210_1167 : tagg Tryz.prog 210 = some false := by kernel_rfl
@[go_sem] theorem ty_210_1168 : blksz Tryz.prog 210 = some 1 := by kernel_rfl
@[go_sem] theorem ty_211_1169 : tsz Tryz.prog 211 = some 1 := by kernel_rfl
@[go_sem] theorem ty_211_1170 : tbytes Tryz.prog 211 = some 8 := by kernel_rfl
@[go_sem] theorem ty_211_1171 : tzero Tryz.prog 211 = some [.nilFunc] := by kernel_rfl
@[go_sem] theorem ty_211_1172 : tagg Tryz.prog 211 = some false := by kernel_rfl
@[go_sem] theorem ty_211_1173 : blksz Tryz.prog 211 = some 1 := by kernel_rfl
@[go_sem] theorem ty_212_1174 : tsz Tryz.prog 212 = some 1 := by kernel_rfl
@[go_sem] theorem ty_212_1175 : tbytes Tryz.prog 212 = some 8 := by kernel_rfl
@[go_sem] theorem ty_212_1176 : tzero Tryz.prog 212 = some [.nilFunc] := by kernel_rfl
@[go_sem] theorem ty_212_1177 : tagg Tryz.prog 212 = some false := by kernel_rfl
@[go_sem] theorem ty_212_1178 : blksz Tryz.prog 212 = some 1 := by kernel_rfl
@[go_sem] theorem ty_213_1179 : tsz Tryz.prog 213 = some 1 := by kernel_rfl
@[go_sem] theorem ty_213_1180 : tbytes Tryz.prog 213 = some 8 := by kernel_rfl
@[go_sem] theorem ty_213_1181 : tzero Tryz.prog 213 = some [.nilFunc] := by kernel_rfl
@[go_sem] theorem ty_213_1182 : tagg Tryz.prog 213 = some false := by kernel_rfl
@[go_sem] theorem ty_213_1183 : blksz Tryz.prog 213 = some 1 := by kernel_rfl
@[go_sem] theorem ty_214_1184 : tsz Tryz.prog 214 = some 1 := by kernel_rfl
@[go_sem] theorem ty_214_1185 : tbytes Tryz.prog 214 = some 8 := by kernel_rfl
@[go_sem] theorem ty_214_1186 : tzero Tryz.prog 214 = some [.nilFunc] := by kernel_rfl
@[go_sem] theorem ty_214_1187 : tagg Tryz.prog 214 = some false := by kernel_rfl
@[go_sem] theorem ty_214_1188 : blksz Tryz.prog 214 = some 1 := by kernel_rfl
@[go_sem] theorem ty_215_1189 : tsz Tryz.prog 215 = some 1 := by kernel_rfl
@[go_sem] theorem ty_215_1190 : tbytes Tryz.prog 215 = some 8 := by kernel_rfl
@[go_sem] theorem ty_215_1191 : tzero Tryz.prog 215 = some [.nilFunc] := by kernel_rfl
@[go_sem] theorem ty_215_1192 : tagg Tryz.prog 215 = some false := by kernel_rfl
@[go_sem] theorem ty_215_1193 : blksz Tryz.prog 215 = some 1 := by kernel_rfl
@[go_sem] theorem ty_216_1194 : tsz Tryz.prog 216 = some 1 := by kernel_rfl
@[go_sem] theorem ty_216_1195 : tbytes Tryz.prog 216 = some 8 := by kernel_rfl
@[go_sem] theorem ty_216_1196 : tzero Tryz.prog 216 = some [.nilFunc] := by kernel_rfl
@[go_sem] theorem ty_216_1197 : tagg Tryz.prog 216 = some false := by kernel_rfl
@[go_sem] theorem ty_216_1198 : blksz Tryz.prog 216 = some 1 := by kernel_rfl
@[go_sem] theorem ty_217_1199 : tsz Tryz.prog 217 = some 1 := by kernel_rfl
@[go_sem] theorem ty_217_1200 : tbytes Tryz.prog 217 = some 8 := by kernel_rfl
@[go_sem] theorem ty_217_1201 : tzero Tryz.prog 217 = some [.nilFunc] := by kernel_rfl
@[go_sem] theorem ty_217_1202 : tagg Tryz.prog 217 = some false := by kernel_rfl
@[go_sem] theorem ty_217_1203 : blksz Tryz.prog 217 = some 1 := by kernel_rfl
@[go_sem] theorem ty_218_1204 : tsz Tryz.prog 218 = some 1 := by kernel_rfl
@[go_sem] theorem ty_218_1205 : tbytes Tryz.prog 218 = some 8 := by kernel_rfl
@[go_sem] theorem ty_218_1206 : tzero Tryz.prog 218 = some [.nilFunc] := by kernel_rfl
@[go_sem] theorem ty_218_1207 : tagg Tryz.prog 218 = some false := by kernel_rfl
@[go_sem] theorem ty_218_1208 : blksz Tryz.prog 218 = some 1 := by kernel_rfl
@[go_sem] theorem ty_219_1209 : tsz Tryz.prog 219 = some 1 := by kernel_rfl
@[go_sem] theorem ty_219_1210 : tbytes Tryz.prog 219 = some 0 := by kernel_rfl
@[go_sem] theorem ty_219_1211 : tagg Tryz.prog 219 = some false := by kernel_rfl
@[go_sem] theorem ty_219_1212 : blksz Tryz.prog 219 = some 1 := by kernel_rfl
@[go_sem] theorem ty_220_1213 : tsz Tryz.prog 220 = some 1 := by kernel_rfl
@[go_sem] theorem ty_220_1214 : tbytes Tryz.prog 220 = some 8 := by kernel_rfl
@[go_sem] theorem ty_220_1215 : tzero Tryz.prog 220 = some [.nilFunc] := by kernel_rfl
@[go_sem] theorem ty_220_1216 : tagg Tryz.prog 220 = some false := by kernel_rfl
@[go_sem] theorem ty_220_1217 : blksz Tryz.prog 220 = some 1 := by kernel_rfl
@[go_sem] theorem ty_221_1218 : tsz Tryz.prog 221 = some 1 := by kernel_rfl
@[go_sem] theorem ty_221_1219 : tbytes Tryz.prog 221 = some 8 := by kernel_rfl
@[go_sem] theorem ty_221_1220 : tzero Tryz.prog 221 = some [.nilFunc] := by kernel_rfl
@[go_sem] theorem ty_221_1221 : tagg Tryz.prog 221 = some false := by kernel_rfl
@[go_sem] theorem ty_221_1222 : blksz Tryz.prog 221 = some 1 := by kernel_rfl
@[go_sem] theorem ty_222_1223 : tsz Tryz.prog 222 = some 1 := by kernel_rfl
@[go_sem] theorem ty_222_1224 : tbytes Tryz.prog 222 = some 8 := by kernel_rfl
@[go_sem] theorem ty_222_1225 : tzero Tryz.prog 222 = some [.nilFunc] := by kernel_rfl
@[go_sem] theorem ty_222_1226 : tagg Tryz.prog 222 = some false := by kernel_rfl
@[go_sem] theorem ty_222_1227 : blksz Tryz.prog 222 = some 1 := by kernel_rfl
@[go_sem] theorem ty_223_1228 : tsz Tryz.prog 223 = some 1 := by kernel_rfl
@[go_sem] theorem ty_223_1229 : tbytes Tryz.prog 223 = some 8 := by kernel_rfl
@[go_sem] theorem ty_223_1230 : tzero Tryz.prog 223 = some [.nilFunc] := by kernel_rfl
@[go_sem] theorem ty_223_1231 : tagg Tryz.prog 223 = some false := by kernel_rfl
@[go_sem] theorem ty_223_1232 : blksz Tryz.prog 223 = some 1 := by kernel_rfl
@[go_sem] theorem ty_224_1233 : tsz Tryz.prog 224 = some 1 := by kernel_rfl
@[go_sem] theorem ty_224_1234 : tbytes Tryz.prog 224 = some 8 := by kernel_rfl
@[go_sem] theorem ty_224_1235 : tzero Tryz.prog 224 = some [.nilFunc] := by kernel_rfl
@[go_sem] theorem ty_224_1236 : tagg Tryz.prog 224 = some false := by kernel_rfl
@[go_sem] theorem ty_224_1237 : blksz Tryz.prog 224 = some 1 := by kernel_rfl
@[go_sem] theorem ty_225_1238 : tsz Tryz.prog 225 = some 1 := by kernel_rfl
@[go_sem] theorem ty_225_1239 : tbytes Tryz.prog 225 = some 8 := by kernel_rfl
@[go_sem] theorem ty_225_1240 : tzero Tryz.prog 225 = some [.nilFunc] := by kernel_rfl
@[go_sem] theorem ty_225_1241 : tagg Tryz.prog 225 = some false := by kernel_rfl
@[go_sem] theorem ty_225_1242 : blksz Tryz.prog 225 = some 1 := by kernel_rfl
@[go_sem] theorem ty_226_1243 : tsz Tryz.prog 226 = some 1 := by kernel_rfl
@[go_sem] theorem ty_226_1244 : tbytes Tryz.prog 226 = some 8 := by kernel_rfl
@[go_sem] theorem ty_226_1245 : tzero Tryz.prog 226 = some [.nilFunc] := by kernel_rfl
@[go_sem] theorem ty_226_1246 : tagg Tryz.prog 226 = some false := by kernel_rfl
@[go_sem] theorem ty_226_1247 : blksz Tryz.prog 226 = some 1 := by kernel_rfl
@[go_sem] theorem ty_227_1248 : tsz Tryz.prog 227 = some 1 := by kernel_rfl
@[go_sem] theorem ty_227_1249 : tbytes Tryz.prog 227 = some 8 := by kernel_rfl
@[go_sem] theorem ty_227_1250 : tzero Tryz.prog 227 = some [.nilFunc] := by kernel_rfl
@[go_sem] theorem ty_227_1251 : tagg Tryz.prog 227 = some false := by kernel_rfl
@[go_sem] theorem ty_227_1252 : blksz Tryz.prog 227 = some 1 := by kernel_rfl
@[go_sem] theorem ty_228_1253 : tsz Tryz.prog 228 = some 1 := by kernel_rfl
@[go_sem] theorem ty_228_1254 : tbytes Tryz.prog 228 = some 8 := by kernel_rfl
@[go_sem] theorem ty_228_1255 : tzero Tryz.prog 228 = some [.nilFunc] := by kernel_rfl
@[go_sem] theorem ty_228_1256 : tagg Tryz.prog 228 = some false := by kernel_rfl
@[go_sem] theorem ty_228_1257 : blksz Tryz.prog 228 = some 1 := by kernel_rfl
@[go_sem] theorem ty_229_1258 : tsz Tryz.prog 229 = some 1 := by kernel_rfl
@[go_sem] theorem ty_229_1259 : tbytes Tryz.prog 229 = some 8 := by kernel_rfl
@[go_sem] theorem ty_229_1260 : tzero Tryz.prog 229 = some [.nilFunc] := by kernel_rfl
@[go_sem] theorem ty_229_1261 : tagg Tryz.prog 229 = some false := by kernel_rfl
@[go_sem] theorem ty_229_1262 : blksz Tryz.prog 229 = some 1 := by kernel_rfl
@[go_sem] theorem ty_230_1263 : tsz Tryz.prog 230 = some 1 := by kernel_rfl
@[go_sem] theorem ty_230_1264 : tbytes Tryz.prog 230 = some 8 := by kernel_rfl
@[go_sem] theorem ty_230_1265 : tzero Tryz.prog 230 = some [.nilFunc] := by kernel_rfl
@[go_sem] theorem ty_230_1266 : tagg Tryz.prog 230 = some false := by kernel_rfl
@[go_sem] theorem ty_230_1267 : blksz Tryz.prog 230 = some 1 := by kernel_rfl
@[go_sem] theorem ty_231_1268 : tsz Tryz.prog 231 = some 1 := by kernel_rfl
@[go_sem] theorem ty_231_1269 : tbytes Tryz.prog 231 = some 24 := by kernel_rfl
@[go_sem] theorem ty_231_1270 : tzero Tryz.prog 231 = some [.slice none 0 0] := by kernel_rfl
@[go_sem] theorem ty_231_1271 : tagg Tryz.prog 231 = some false := by kernel_rfl
@[go_sem] theorem ty_231_1272 : telem Tryz.prog 231 = some 5 := by kernel_rfl
@[go_sem] theorem ty_231_1273 : tstr Tryz.prog 231 = false := by kernel_rfl
@[go_sem] theorem ty_231_1274 : blksz Tryz.prog 231 = some 1 := by kernel_rfl
@[go_sem] theorem ty_232_1275 : tsz Tryz.prog 232 = some 1 := by kernel_rfl
@[go_sem] theorem ty_232_1276 : tbytes Tryz.prog 232 = some 8 := by kernel_rfl
@[go_sem] theorem ty_232_1277 : tzero Tryz.prog 232 = some [.nilFunc] := by kernel_rfl
@[go_sem] theorem ty_232_1278 : tagg Tryz.prog 232 = some false := by kernel_rfl
@[go_sem] theorem ty_232_1279 : blksz Tryz.prog 232 = some 1 := by kernel_rfl
@[go_sem] theorem ty_233_1280 : tsz Tryz.prog 233 = some 1 := by kernel_rfl
@[go_sem] theorem ty_233_1281 : tbytes Tryz.prog 233 = some 8 := by kernel_rfl
@[go_sem] theorem ty_233_1282 : tzero Tryz.prog 233 = some [.nilFunc] := by kernel_rfl
@[go_sem] theorem ty_233_1283 : tagg Tryz.prog 233 = some false := by kernel_rfl
@[go_sem] theorem ty_233_1284 : blksz Tryz.prog 233 = some 1 := by kernel_rfl
@[go_sem] theorem ty_234_1285 : tsz Tryz.prog 234 = some 1 := by kernel_rfl
@[go_sem] theorem ty_234_1286 : tbytes Tryz.prog 234 = some 24 := by kernel_rfl
@[go_sem] theorem ty_234_1287 : tzero Tryz.prog 234 = some [.slice none 0 0] := by kernel_rfl
@[go_sem] theorem ty_234_1288 : tagg Tryz.prog 234 = some false := by kernel_rfl
@[go_sem] theorem ty_234_1289 : telem Tryz.prog 234 = some 3 := by kernel_rfl
@[go_sem] theorem ty_234_1290 : tstr Tryz.prog 234 = false := by kernel_rfl
@[go_sem] theorem ty_234_1291 : blksz Tryz.prog 234 = some 1 := by kernel_rfl
@[go_sem] theorem ty_235_1292 : tsz Tryz.prog 235 = some 1 := by kernel_rfl
@[go_sem] theorem ty_235_1293 : tbytes Tryz.prog 235 = some 8 := by kernel_rfl
@[go_sem] theorem ty_235_1294 : tzero Tryz.prog 235 = some [.nilFunc] := by kernel_rfl
@[go_sem] theorem ty_235_1295 : tagg Tryz.prog 235 = some false := by kernel_rfl
@[go_sem] theorem ty_235_1296 : blksz Tryz.prog 235 = some 1 := by kernel_rfl
@[go_sem] theorem ty_236_1297 : tsz Tryz.prog 236 = some 1 := by kernel_rfl
@[go_sem] theorem ty_236_1298 : tbytes Tryz.prog 236 = some 0 := by kernel_rfl
@[go_sem] theorem ty_236_1299 : tagg Tryz.prog 236 = some false := by kernel_rfl
@[go_sem] theorem ty_236_1300 : blksz Tryz.prog 236 = some 1 := by kernel_rfl
@[go_sem] theorem ty_237_1301 : tsz Tryz.prog 237 = some 1 := by kernel_rfl
@[go_sem] theorem ty_237_1302 : tbytes Tryz.prog 237 = some 8 := by kernel_rfl
@[go_sem] theorem ty_237_1303 : tzero Tryz.prog 237 = some [.nilFunc] := by kernel_rfl
@[go_sem] theorem ty_237_1304 : tagg Tryz.prog 237 = some false := by kernel_rfl
@[go_sem] theorem ty_237_1305 : blksz Tryz.prog 237 = some 1 := by kernel_rfl
@[go_sem] theorem ty_238_1306 : tsz Tryz.prog 238 = some 1 := by kernel_rfl
@[go_sem] theorem ty_238_1307 : tbytes Tryz.prog 238 = some 8 := by kernel_rfl
@[go_sem] theorem ty_238_1308 : tzero Tryz.prog 238 = some [.nilFunc] := by kernel_rfl
@[go_sem] theorem ty_238_1309 : tagg Tryz.prog 238 = some false := by kernel_rfl
@[go_sem] theorem ty_238_1310 : blksz Tryz.prog 238 = some 1 := by kernel_rfl
@[go_sem] theorem ty_239_1311 : tsz Tryz.prog 239 = some 1 := by kernel_rfl
@[go_sem] theorem ty_239_1312 : tbytes Tryz.prog 239 = some 0 := by kernel_rfl
@[go_sem] theorem ty_239_1313 : tagg Tryz.prog 239 = some false := by kernel_rfl
@[go_sem] theorem ty_239_1314 : blksz Tryz.prog 239 = some 1 := by kernel_rfl
@[go_sem] theorem ty_240_1315 : tsz Tryz.prog 240 = some 1 := by kernel_rfl
@[go_sem] theorem ty_240_1316 : tbytes Tryz.prog 240 = some 8 := by kernel_rfl
@[go_sem] theorem ty_240_1317 : tzero Tryz.prog 240 = some [.nilFunc] := by kernel_rfl
@[go_sem] theorem ty_240_1318 : tagg Tryz.prog 240 = some false := by kernel_rfl
@[go_sem] theorem ty_240_1319 : blksz Tryz.prog 240 = some 1 := by kernel_rfl
@[go_sem] theorem ty_241_1320 : tsz Tryz.prog 241 = some 1 := by kernel_rfl
@[go_sem] theorem ty_241_1321 : tbytes Tryz.prog 241 = some 8 := by kernel_rfl
@[go_sem] theorem ty_241_1322 : tzero Tryz.prog 241 = some [.nilFunc] := by kernel_rfl
@[go_sem] theorem ty_241_1323 : tagg Tryz.prog 241 = some false := by kernel_rfl
@[go_sem] theorem ty_241_1324 : blksz Tryz.prog 241 = some 1 := by kernel_rfl
@[go_sem] theorem ty_242_1325 : tsz Tryz.prog 242 = some 1 := by kernel_rfl
@[go_sem] theorem ty_242_1326 : tbytes Tryz.prog 242 = some 8 := by kernel_rfl
@[go_sem] theorem ty_242_1327 : tzero Tryz.prog 242 = some [.nilFunc] := by kernel_rfl
@[go_sem] theorem ty_242_1328 : tagg Tryz.prog 242 = some false := by kernel_rfl
@[go_sem] theorem ty_242_1329 : blksz Tryz.prog 242 = some 1 := by kernel_rfl
@[go_sem] theorem ty_243_1330 : tsz Tryz.prog 243 = some 1 := by kernel_rfl
@[go_sem] theorem ty_243_1331 : tbytes Tryz.prog 243 = some 24 := by kernel_rfl
@[go_sem] theorem ty_243_1332 : tzero Tryz.prog 243 = some [.slice none 0 0] := by kernel_rfl
@[go_sem] theorem ty_243_1333 : tagg Tryz.prog 243 = some false := by kernel_rfl
@[go_sem] theorem ty_243_1334 : telem Tryz.prog 243 = some 246 := by kernel_rfl
@[go_sem] theorem ty_243_1335 : tstr Tryz.prog 243 = false := by kernel_rfl
@[go_sem] theorem ty_243_1336 : blksz Tryz.prog 243 = some 1 := by kernel_rfl
@[go_sem] theorem ty_244_1337 : tsz Tryz.prog 244 = some 1 := by kernel_rfl
@[go_sem] theorem ty_244_1338 : tbytes Tryz.prog 244 = some 8 := by kernel_rfl
@[go_sem] theorem ty_244_1339 : tzero Tryz.prog 244 = some [.nilFunc] := by kernel_rfl
@[go_sem] theorem ty_244_1340 : tagg Tryz.prog 244 = some false := by kernel_rfl
@[go_sem] theorem ty_244_1341 : blksz Tryz.prog 244 = some 1 := by kernel_rfl
@[go_sem] theorem ty_245_1342 : tsz Tryz.prog 245 = some 2 := by kernel_rfl
@[go_sem] theorem ty_245_1343 : tbytes Tryz.prog 245 = some 16 := by kernel_rfl
@[go_sem] theorem ty_245_1344 : tzero Tryz.prog 245 = some [.int .i64 0, .int .i64 0] := by kernel_rfl
@[go_sem] theorem ty_245_1345 : tagg Tryz.prog 245 = some true := by kernel_rfl
@[go_sem] theorem ty_245_1346 : tarr Tryz.prog 245 = none := by kernel_rfl
@[go_sem] theorem ty_245_1347 : blksz Tryz.prog 245 = some 2 := by kernel_rfl
@[go_sem] theorem ty_245_1348 : tplaces Tryz.prog 245 = some [(0, 1), (1, 1)] := by kernel_rfl
@[go_sem] theorem ty_245_1349 : structK Tryz.prog 245 = some [1, 1] := by kernel_rfl
@[go_sem] theorem ty_245_1350 : tfield Tryz.prog 245 0 = some (0, 3) := by kernel_rfl
@[go_sem] theorem ty_245_1351 : tfield Tryz.prog 245 1 = some (1, 3) := by kernel_rfl
@[go_sem] theorem ty_246_1352 : tsz Tryz.prog 246 = some 2 := by kernel_rfl
@[go_sem] theorem ty_246_1353 : tbytes Tryz.prog 246 = some 16 := by kernel_rfl
@[go_sem] theorem ty_246_1354 : tzero Tryz.prog 246 = some [.int .i64 0, .int .i64 0] := by kernel_rfl
@[go_sem] theorem ty_246_1355 : tagg Tryz.prog 246 = some true := by kernel_rfl
@[go_sem] theorem ty_246_1356 : tarr Tryz.prog 246 = none := by kernel_rfl
@[go_sem] theorem ty_246_1357 : blksz Tryz.prog 246 = some 2 := by kernel_rfl
@[go_sem] theorem ty_246_1358 : tplaces Tryz.prog 246 = some [(0, 1), (1, 1)] := by kernel_rfl
@[go_sem] theorem ty_246_1359 : structK Tryz.prog 246 = some [1, 1] := by kernel_rfl
@[go_sem] theorem ty_246_1360 : tfield Tryz.prog 246 0 = some (0, 3) := by kernel_rfl
@[go_sem] theorem ty_246_1361 : tfield Tryz.prog 246 1 = some (1, 3) := by kernel_rfl
@[go_sem] theorem ty_247_1362 : tsz Tryz.prog 247 = some 1 := by kernel_rfl
@[go_sem] theorem ty_247_1363 : tbytes Tryz.prog 247 = some 8 := by kernel_rfl
@[go_sem] theorem ty_247_1364 : tzero Tryz.prog 247 = some [.nilFunc] := by kernel_rfl
@[go_sem] theorem ty_247_1365 : tagg Tryz.prog 247 = some false := by kernel_rfl
@[go_sem] theorem ty_247_1366 : blksz Tryz.prog 247 = some 1 := by kernel_rfl
@[go_sem] theorem ty_248_1367 : tsz Tryz.prog 248 = some 1 := by kernel_rfl
@[go_sem] theorem ty_248_1368 : tbytes Tryz.prog 248 = some 8 := by kernel_rfl
@[go_sem] theorem ty_248_1369 : tzero Tryz.prog 248 = some [.nilFunc] := by kernel_rfl
@[go_sem] theorem ty_248_1370 : tagg Tryz.prog 248 = some false := by kernel_rfl
@[go_sem] theorem ty_248_1371 : blksz Tryz.prog 248 = some 1 := by kernel_rfl
@[go_sem] theorem ty_249_1372 : tsz Tryz.prog 249 = some 1 := by kernel_rfl
@[go_sem] theorem ty_249_1373 : tbytes Tryz.prog 249 = some 8 := by kernel_rfl
@[go_sem] theorem ty_249_1374 : tzero Tryz.prog 249 = some [.nilFunc] := by kernel_rfl
@[go_sem] theorem ty_249_1375 : tagg Tryz.prog 249 = some false := by kernel_rfl
@[go_sem] theorem ty_249_1376 : blksz Tryz.prog 249 = some 1 := by kernel_rfl
@[go_sem] theorem ty_250_1377 : tsz Tryz.prog 250 = some 1 := by kernel_rfl
@[go_sem] theorem ty_250_1378 : tbytes Tryz.prog 250 = some 8 := by kernel_rfl
@[go_sem] theorem ty_250_1379 : tzero Tryz.prog 250 = some [.nilFunc] := by kernel_rfl
@[go_sem] theorem ty_250_1380 : tagg Tryz.prog 250 = some false := by kernel_rfl
@[go_sem] theorem ty_250_1381 : blksz Tryz.prog 250 = some 1 := by kernel_rfl
@[go_sem] theorem ty_251_1382 : tsz Tryz.prog 251 = some 1 := by kernel_rfl
@[go_sem] theorem ty_251_1383 : tbytes Tryz.prog 251 = some 8 := by kernel_rfl
@[go_sem] theorem ty_251_1384 : tzero Tryz.prog 251 = some [.nilFunc] := by kernel_rfl
@[go_sem] theorem ty_251_1385 : tagg Tryz.prog 251 = some false := by kernel_rfl
@[go_sem] theorem ty_251_1386 : blksz Tryz.prog 251 = some 1 := by kernel_rfl
@[go_sem] theorem ty_252_1387 : tsz Tryz.prog 252 = some 1 := by kernel_rfl
@[go_sem] theorem ty_252_1388 : tbytes Tryz.prog 252 = some 8 := by kernel_rfl
@[go_sem] theorem ty_252_1389 : tzero Tryz.prog 252 = some [.nilFunc] := by kernel_rfl
@[go_sem] theorem ty_252_1390 : tagg Tryz.prog 252 = some false := by kernel_rfl
@[go_sem] theorem ty_252_1391 : blksz Tryz.prog 252 = some 1 := by kernel_rfl
@[go_sem] theorem ty_253_1392 : tsz Tryz.prog 253 = some 1 := by kernel_rfl
@[go_sem] theorem ty_253_1393 : tbytes Tryz.prog 253 = some 8 := by kernel_rfl
@[go_sem] theorem ty_253_1394 : tzero Tryz.prog 253 = some [.nilFunc] := by kernel_rfl
@[go_sem] theorem ty_253_1395 : tagg Tryz.prog 253 = some false := by kernel_rfl
@[go_sem] theorem ty_253_1396 : blksz Tryz.prog 253 = some 1 := by kernel_rfl
@[go_sem] theorem ty_254_1397 : tsz Tryz.prog 254 = some 1 := by kernel_rfl
@[go_sem] theorem ty_254_1398 : tbytes Tryz.prog 254 = some 8 := by kernel_rfl
@[go_sem] theorem ty_254_1399 : tzero Tryz.prog 254 = some [.nilFunc] := by kernel_rfl
@[go_sem] theorem ty_254_1400 : tagg Tryz.prog 254 = some false := by kernel_rfl
@[go_sem] theorem ty_254_1401 : blksz Tryz.prog 254 = some 1 := by kernel_rfl
@[go_sem] theorem ty_255_1402 : tsz Tryz.prog 255 = some 1 := by kernel_rfl
@[go_sem] theorem ty_255_1403 : tbytes Tryz.prog 255 = some 8 := by kernel_rfl
@[go_sem] theorem ty_255_1404 : tzero Tryz.prog 255 = some [.int .i64 0] := by kernel_rfl
@[go_sem] theorem ty_255_1405 : tagg Tryz.prog 255 = some false := by kernel_rfl
@[go_sem] theorem ty_255_1406 : tint Tryz.prog 255 = some .i64 := by kernel_rfl
@[go_sem] theorem ty_255_1407 : blksz Tryz.prog 255 = some 1 := by kernel_rfl
@[go_sem] theorem ty_256_1408 : tsz Tryz.prog 256 = some 1 := by kernel_rfl
@[go_sem] theorem ty_256_1409 : tbytes Tryz.prog 256 = some 0 := by kernel_rfl
@[go_sem] theorem ty_256_1410 : tagg Tryz.prog 256 = some false := by kernel_rfl
@[go_sem] theorem ty_256_1411 : blksz Tryz.prog 256 = some 1 := by kernel_rfl
@[go_sem] theorem ty_257_1412 : tsz Tryz.prog 257 = some 1 := by kernel_rfl
@[go_sem] theorem ty_257_1413 : tbytes Tryz.prog 257 = some 8 := by kernel_rfl
@[go_sem] theorem ty_257_1414 : tzero Tryz.prog 257 = some [.nilFunc] := by kernel_rfl
@[go_sem] theorem ty_257_1415 : tagg Tryz.prog 257 = some false := by kernel_rfl
@[go_sem] theorem ty_257_1416 : blksz Tryz.prog 257 = some 1 := by kernel_rfl
@[go_sem] theorem ty_258_1417 : tsz Tryz.prog 258 = some 1 := by kernel_rfl
@[go_sem] theorem ty_258_1418 : tbytes Tryz.prog 258 = some 8 := by kernel_rfl
@[go_sem] theorem ty_258_1419 : tzero Tryz.prog 258 = some [.nilFunc] := by kernel_rfl
@[go_sem] theorem ty_258_1420 : tagg Tryz.prog 258 = some false := by kernel_rfl
@[go_sem] theorem ty_258_1421 : blksz Tryz.prog 258 = some 1 := by kernel_rfl
@[go_sem] theorem ty_259_1422 : tsz Tryz.prog 259 = some 1 := by kernel_rfl
@[go_sem] theorem ty_259_1423 : tbytes Tryz.prog 259 = some 8 := by kernel_rfl
@[go_sem] theorem ty_259_1424 : tzero Tryz.prog 259 = some [.nilFunc] := by kernel_rfl
@[go_sem] theorem ty_259_1425 : tagg Tryz.prog 259 = some false := by kernel_rfl
@[go_sem] theorem ty_259_1426 : blksz Tryz.prog 259 = some 1 := by kernel_rfl
@[go_sem] theorem ty_260_1427 : tsz Tryz.prog 260 = some 1 := by kernel_rfl
@[go_sem] theorem ty_260_1428 : tbytes Tryz.prog 260 = some 8 := by kernel_rfl
@[go_sem] theorem ty_260_1429 : tzero Tryz.prog 260 = some [.nilFunc] := by kernel_rfl
@[go_sem] theorem ty_260_1430 : tagg Tryz.prog 260 = some false := by kernel_rfl
@[go_sem] theorem ty_260_1431 : blksz Tryz.prog 260 = some 1 := by kernel_rfl
@[go_sem] theorem ty_261_1432 : tsz Tryz.prog 261 = some 1 := by kernel_rfl
@[go_sem] theorem ty_261_1433 : tbytes Tryz.prog 261 = some 8 := by kernel_rfl
@[go_sem] theorem ty_261_1434 : tzero Tryz.prog 261 = some [.nilFunc] := by kernel_rfl
@[go_sem] theorem ty_261_1435 : tagg Tryz.prog 261 = some false := by kernel_rfl
@[go_sem] theorem ty_261_1436 : blksz Tryz.prog 261 = some 1 := by kernel_rfl
@[go_sem] theorem ty_262_1437 : tsz Tryz.prog 262 = some 1 := by kernel_rfl
@[go_sem] theorem ty_262_1438 : tbytes Tryz.prog 262 = some 4 := by kernel_rfl
@[go_sem] theorem ty_262_1439 : tzero Tryz.prog 262 = some [.int .u32 0] := by kernel_rfl
@[go_sem] theorem ty_262_1440 : tagg Tryz.prog 262 = some false := by kernel_rfl
@[go_sem] theorem ty_262_1441 : tint Tryz.prog 262 = some .u32 := by kernel_rfl
@[go_sem] theorem ty_262_1442 : blksz Tryz.prog 262 = some 1 := by kernel_rfl
@[go_sem] theorem ty_263_1443 : tsz Tryz.prog 263 = some 1 := by kernel_rfl
@[go_sem] theorem ty_263_1444 : tbytes Tryz.prog 263 = some 8 := by kernel_rfl
@[go_sem] theorem ty_263_1445 : tzero Tryz.prog 263 = some [.nilFunc] := by kernel_rfl
@[go_sem] theorem ty_263_1446 : tagg Tryz.prog 263 = some false := by kernel_rfl
@[go_sem] theorem ty_263_1447 : blksz Tryz.prog 263 = some 1 := by kernel_rfl
@[go_sem] theorem ty_264_1448 : tsz Tryz.prog 264 = some 1 := by kernel_rfl
@[go_sem] theorem ty_264_1449 : tbytes Tryz.prog 264 = some 8 := by kernel_rfl
@[go_sem] theorem ty_264_1450 : tzero Tryz.prog 264 = some [.nilFunc] := by kernel_rfl
@[go_sem] theorem ty_264_1451 : tagg Tryz.prog 264 = some false := by kernel_rfl
@[go_sem] theorem ty_264_1452 : blksz Tryz.prog 264 = some 1 := by kernel_rfl
@[go_sem] theorem ty_265_1453 : tsz Tryz.prog 265 = some 1 := by kernel_rfl
@[go_sem] theorem ty_265_1454 : tbytes Tryz.prog 265 = some 8 := by kernel_rfl
@[go_sem] theorem ty_265_1455 : tzero Tryz.prog 265 = some [.nilFunc] := by kernel_rfl
@[go_sem] theorem ty_265_1456 : tagg Tryz.prog 265 = some false := by kernel_rfl
@[go_sem] theorem ty_265_1457 : blksz Tryz.prog 265 = some 1 := by kernel_rfl
@[go_sem] theorem ty_266_1458 : tsz Tryz.prog 266 = some 1 := by kernel_rfl
@[go_sem] theorem ty_266_1459 : tbytes Tryz.prog 266 = some 8 := by kernel_rfl
@[go_sem] theorem ty_266_1460 : tzero Tryz.prog 266 = some [.nilFunc] := by kernel_rfl
@[go_sem] theorem ty_266_1461 : tagg Tryz.prog 266 = some false := by kernel_rfl
@[go_sem] theorem ty_266_1462 : blksz Tryz.prog 266 = some 1 := by kernel_rfl
@[go_sem] theorem ty_267_1463 : tsz Tryz.prog 267 = some 1 := by kernel_rfl
@[go_sem] theorem ty_267_1464 : tbytes Tryz.prog 267 = some 24 := by kernel_rfl
@[go_sem] theorem ty_267_1465 : tzero Tryz.prog 267 = some [.slice none 0 0] := by kernel_rfl
@[go_sem] theorem ty_267_1466 : tagg Tryz.prog 267 = some false := by kernel_rfl
@[go_sem] theorem ty_267_1467 : telem Tryz.prog 267 = some 98 := by kernel_rfl
@[go_sem] theorem ty_267_1468 : tstr Tryz.prog 267 = false := by kernel_rfl
@[go_sem] theorem ty_267_1469 : blksz Tryz.prog 267 = some 1 := by kernel_rfl
@[go_sem] theorem ty_268_1470 : tsz Tryz.prog 268 = some 1 := by kernel_rfl
@[go_sem] theorem ty_268_1471 : tbytes Tryz.prog 268 = some 8 := by kernel_rfl
@[go_sem] theorem ty_268_1472 : tzero Tryz.prog 268 = some [.nilFunc] := by kernel_rfl
@[go_sem] theorem ty_268_1473 : tagg Tryz.prog 268 = some false := by kernel_rfl
@[go_sem] theorem ty_268_1474 : blksz Tryz.prog 268 = some 1 := by kernel_rfl
@[go_sem] theorem ty_269_1475 : tsz Tryz.prog 269 = some 1 := by kernel_rfl
@[go_sem] theorem ty_269_1476 : tbytes Tryz.prog 269 = some 8 := by kernel_rfl
@[go_sem] theorem ty_269_1477 : tzero Tryz.prog 269 = some [.nilFunc] := by kernel_rfl
@[go_sem] theorem ty_269_1478 : tagg Tryz.prog 269 = some false := by kernel_rfl
@[go_sem] theorem ty_269_1479 : blksz Tryz.prog 269 = some 1 := by kernel_rfl
@[go_sem] theorem ty_270_1480 : tsz Tryz.prog 270 = some 1 := by kernel_rfl
@[go_sem] theorem ty_270_1481 : tbytes Tryz.prog 270 = some 8 := by kernel_rfl
@[go_sem] theorem ty_270_1482 : tzero Tryz.prog 270 = some [.nilFunc] := by kernel_rfl
@[go_sem] theorem ty_270_1483 : tagg Tryz.prog 270 = some false := by kernel_rfl
@[go_sem] theorem ty_270_1484 : blksz Tryz.prog 270 = some 1 := by kernel_rfl
@[go_sem] theorem ty_271_1485 : tsz Tryz.prog 271 = some 1 := by kernel_rfl
@[go_sem] theorem ty_271_1486 : tbytes Tryz.prog 271 = some 8 := by kernel_rfl
@[go_sem] theorem ty_271_1487 : tzero Tryz.prog 271 = some [.nilFunc] := by kernel_rfl
@[go_sem] theorem ty_271_1488 : tagg Tryz.prog 271 = some false := by kernel_rfl
@[go_sem] theorem ty_271_1489 : blksz Tryz.prog 271 = some 1 := by kernel_rfl
@[go_sem] theorem ty_272_1490 : tsz Tryz.prog 272 = some 1 := by kernel_rfl
@[go_sem] theorem ty_272_1491 : tbytes Tryz.prog 272 = some 8 := by kernel_rfl
@[go_sem] theorem ty_272_1492 : tzero Tryz.prog 272 = some [.nilFunc] := by kernel_rfl
@[go_sem] theorem ty_272_1493 : tagg Tryz.prog 272 = some false := by kernel_rfl
@[go_sem] theorem ty_272_1494 : blksz Tryz.prog 272 = some 1 := by kernel_rfl
@[go_sem] theorem ty_273_1495 : tsz Tryz.prog 273 = some 1 := by kernel_rfl
@[go_sem] theorem ty_273_1496 : tbytes Tryz.prog 273 = some 8 := by kernel_rfl
@[go_sem] theorem ty_273_1497 : tzero Tryz.prog 273 = some [.nilFunc] := by kernel_rfl
@[go_sem] theorem ty_273_1498 : tagg Tryz.prog 273 = some false := by kernel_rfl
@[go_sem] theorem ty_273_1499 : blksz Tryz.prog 273 = some 1 := by kernel_rfl
@[go_sem] theorem ty_274_1500 : tsz Tryz.prog 274 = some 1 := by kernel_rfl
@[go_sem] theorem ty_274_1501 : tbytes Tryz.prog 274 = some 8 := by kernel_rfl
@[go_sem] theorem ty_274_1502 : tzero Tryz.prog 274 = some [.int .u64 0] := by kernel_rfl
@[go_sem] theorem ty_274_1503 : tagg Tryz.prog 274 = some false := by kernel_rfl
@[go_sem] theorem ty_274_1504 : tint Tryz.prog 274 = some .u64 := by kernel_rfl
@[go_sem] theorem ty_274_1505 : blksz Tryz.prog 274 = some 1 := by kernel_rfl
@[go_sem] theorem ty_275_1506 : tsz Tryz.prog 275 = some 1 := by kernel_rfl
@[go_sem] theorem ty_275_1507 : tbytes Tryz.prog 275 = some 8 := by kernel_rfl
@[go_sem] theorem ty_275_1508 : tzero Tryz.prog 275 = some [.nilFunc] := by kernel_rfl
@[go_sem] theorem ty_275_1509 : tagg Tryz.prog 275 = some false := by kernel_rfl
@[go_sem] theorem ty_275_1510 : blksz Tryz.prog 275 = some 1 := by kernel_rfl
@[go_sem] theorem ty_276_1511 : tsz Tryz.prog 276 = some 1 := by kernel_rfl
@[go_sem] theorem ty_276_1512 : tbytes Tryz.prog 276 = some 8 := by kernel_rfl
@[go_sem] theorem ty_276_1513 : tzero Tryz.prog 276 = some [.nilFunc] := by kernel_rfl
@[go_sem] theorem ty_276_1514 : tagg Tryz.prog 276 = some false := by kernel_rfl
@[go_sem] theorem ty_276_1515 : blksz Tryz.prog 276 = some 1 := by kernel_rfl
@[go_sem] theorem ty_277_1516 : tsz Tryz.prog 277 = some 1 := by kernel_rfl
@[go_sem] theorem ty_277_1517 : tbytes Tryz.prog 277 = some 8 := by kernel_rfl
@[go_sem] theorem ty_277_1518 : tzero Tryz.prog 277 = some [.nilFunc] := by kernel_rfl
@[go_sem] theorem ty_277_1519 : tagg Tryz.prog 277 = some false := by kernel_rfl
@[go_sem] theorem ty_277_1520 : blksz Tryz.prog 277 = some 1 := by kernel_rfl
@[go_sem] theorem ty_278_1521 : tsz Tryz.prog 278 = some 1 := by kernel_rfl
@[go_sem] theorem ty_278_1522 : tbytes Tryz.prog 278 = some 8 := by kernel_rfl
@[go_sem] theorem ty_278_1523 : tzero Tryz.prog 278 = some [.pointer none] := by kernel_rfl
@[go_sem] theorem ty_278_1524 : tagg Tryz.prog 278 = some false := by kernel_rfl
@[go_sem] theorem ty_278_1525 : blksz Tryz.prog 278 = some 1 := by kernel_rfl
@[go_sem] theorem ty_279_1526 : tsz Tryz.prog 279 = some 1 := by kernel_rfl
@[go_sem] theorem ty_279_1527 : tbytes Tryz.prog 279 = some 8 := by kernel_rfl
@[go_sem] theorem ty_279_1528 : tzero Tryz.prog 279 = some [.nilFunc] := by kernel_rfl
@[go_sem] theorem ty_279_1529 : tagg Tryz.prog 279 = some false := by kernel_rfl
@[go_sem] theorem ty_279_1530 : blksz Tryz.prog 279 = some 1 := by kernel_rfl
@[go_sem] theorem ty_280_1531 : tsz Tryz.prog 280 = some 1 := by kernel_rfl
@[go_sem] theorem ty_280_1532 : tbytes Tryz.prog 280 = some 0 := by kernel_rfl
@[go_sem] theorem ty_280_1533 : tagg Tryz.prog 280 = some false := by kernel_rfl
@[go_sem] theorem ty_280_1534 : blksz Tryz.prog 280 = some 1 := by kernel_rfl
@[go_sem] theorem ty_281_1535 : tsz Tryz.prog 281 = some 1 := by kernel_rfl
@[go_sem] theorem ty_281_1536 : tbytes Tryz.prog 281 = some 8 := by kernel_rfl
@[go_sem] theorem ty_281_1537 : tzero Tryz.prog 281 = some [.nilFunc] := by kernel_rfl
@[go_sem] theorem ty_281_1538 : tagg Tryz.prog 281 = some false := by kernel_rfl
@[go_sem] theorem ty_281_1539 : blksz Tryz.prog 281 = some 1 := by kernel_rfl
@[go_sem] theorem ty_282_1540 : tsz Tryz.prog 282 = some 1 := by kernel_rfl
@[go_sem] theorem ty_282_1541 : tbytes Tryz.prog 282 = some 8 := by kernel_rfl
@[go_sem] theorem ty_282_1542 : tzero Tryz.prog 282 = some [.nilFunc] := by kernel_rfl
@[go_sem] theorem ty_282_1543 : tagg Tryz.prog 282 = some false := by kernel_rfl
@[go_sem] theorem ty_282_1544 : blksz Tryz.prog 282 = some 1 := by kernel_rfl
@[go_sem] theorem ty_283_1545 : tsz Tryz.prog 283 = some 1 := by kernel_rfl
@[go_sem] theorem ty_283_1546 : tbytes Tryz.prog 283 = some 0 := by kernel_rfl
@[go_sem] theorem ty_283_1547 : tagg Tryz.prog 283 = some false := by kernel_rfl
@[go_sem] theorem ty_283_1548 : blksz Tryz.prog 283 = some 1 := by kernel_rfl
@[go_sem] theorem ty_284_1549 : tsz Tryz.prog 284 = some 1 := by kernel_rfl
@[go_sem] theorem ty_284_1550 : tbytes Tryz.prog 284 = some 8 := by kernel_rfl
@[go_sem] theorem ty_284_1551 : tzero Tryz.prog 284 = some [.nilFunc] := by kernel_rfl
@[go_sem] theorem ty_284_1552 : tagg Tryz.prog 284 = some false := by kernel_rfl
@[go_sem] theorem ty_284_1553 : blksz Tryz.prog 284 = some 1 := by kernel_rfl
@[go_sem] theorem ty_285_1554 : tsz Tryz.prog 285 = some 1 := by kernel_rfl
@[go_sem] theorem ty_285_1555 : tbytes Tryz.prog 285 = some 8 := by kernel_rfl
@[go_sem] theorem ty_285_1556 : tzero Tryz.prog 285 = some [.nilFunc] := by kernel_rfl
@[go_sem] theorem ty_285_1557 : tagg Tryz.prog 285 = some false := by kernel_rfl
@[go_sem] theorem ty_285_1558 : blksz Tryz.prog 285 = some 1 := by kernel_rfl
@[go_sem] theorem ty_286_1559 : tsz Tryz.prog 286 = some 1 := by kernel_rfl
@[go_sem] theorem ty_286_1560 : tbytes Tryz.prog 286 = some 8 := by kernel_rfl
@[go_sem] theorem ty_286_1561 : tzero Tryz.prog 286 = some [.nilFunc] := by kernel_rfl
@[go_sem] theorem ty_286_1562 : tagg Tryz.prog 286 = some false := by kernel_rfl
@[go_sem] theorem ty_286_1563 : blksz Tryz.prog 286 = some 1 := by kernel_rfl
@[go_sem] theorem ty_287_1564 : tsz Tryz.prog 287 = some 1 := by kernel_rfl
@[go_sem] theorem ty_287_1565 : tbytes Tryz.prog 287 = some 8 := by kernel_rfl
@[go_sem] theorem ty_287_1566 : tzero Tryz.prog 287 = some [.pointer none] := by kernel_rfl
@[go_sem] theorem ty_287_1567 : tagg Tryz.prog 287 = some false := by kernel_rfl
@[go_sem] theorem ty_287_1568 : blksz Tryz.prog 287 = some 1 := by kernel_rfl
@[go_sem] theorem ty_288_1569 : tsz Tryz.prog 288 = some 1 := by kernel_rfl
@[go_sem] theorem ty_288_1570 : tbytes Tryz.prog 288 = some 8 := by kernel_rfl
@[go_sem] theorem ty_288_1571 : tzero Tryz.prog 288 = some [.nilFunc] := by kernel_rfl
@[go_sem] theorem ty_288_1572 : tagg Tryz.prog 288 = some false := by kernel_rfl
@[go_sem] theorem ty_288_1573 : blksz Tryz.prog 288 = some 1 := by kernel_rfl
@[go_sem] theorem ty_289_1574 : tsz Tryz.prog 289 = some 1 := by kernel_rfl
@[go_sem] theorem ty_289_1575 : tbytes Tryz.prog 289 = some 8 := by kernel_rfl
@[go_sem] theorem ty_289_1576 : tzero Tryz.prog 289 = some [.nilFunc] := by kernel_rfl
@[go_sem] theorem ty_289_1577 : tagg Tryz.prog 289 = some false := by kernel_rfl
@[go_sem] theorem ty_289_1578 : blksz Tryz.prog 289 = some 1 := by kernel_rfl
@[go_sem] theorem ty_290_1579 : tsz Tryz.prog 290 = some 1 := by kernel_rfl
@[go_sem] theorem ty_290_1580 : tbytes Tryz.prog 290 = some 8 := by kernel_rfl
@[go_sem] theorem ty_290_1581 : tzero Tryz.prog 290 = some [.nilFunc] := by kernel_rfl
@[go_sem] theorem ty_290_1582 : tagg Tryz.prog 290 = some false := by kernel_rfl
@[go_sem] theorem ty_290_1583 : blksz Tryz.prog 290 = some 1 := by kernel_rfl
@[go_sem] theorem ty_291_1584 : tsz Tryz.prog 291 = some 1 := by kernel_rfl
@[go_sem] theorem ty_291_1585 : tbytes Tryz.prog 291 = some 8 := by kernel_rfl
@[go_sem] theorem ty_291_1586 : tzero Tryz.prog 291 = some [.nilFunc] := by kernel_rfl
@[go_sem] theorem ty_291_1587 : tagg Tryz.prog 291 = some false := by kernel_rfl
@[go_sem] theorem ty_291_1588 : blksz Tryz.prog 291 = some 1 := by kernel_rfl
@[go_sem] theorem ty_292_1589 : tsz Tryz.prog 292 = some 1 := by kernel_rfl
@[go_sem] theorem ty_292_1590 : tbytes Tryz.prog 292 = some 16 := by kernel_rfl
@[go_sem] theorem ty_292_1591 : tzero Tryz.prog 292 = some [.nilIface] := by kernel_rfl
@[go_sem] theorem ty_292_1592 : tagg Tryz.prog 292 = some false := by kernel_rfl
@[go_sem] theorem ty_292_1593 : blksz Tryz.prog 292 = some 1 := by kernel_rfl
@[go_sem] theorem ty_293_1594 : tsz Tryz.prog 293 = some 1 := by kernel_rfl
@[go_sem] theorem ty_293_1595 : tbytes Tryz.prog 293 = some 16 := by kernel_rfl
@[go_sem] theorem ty_293_1596 : tzero Tryz.prog 293 = some [.nilIface] := by kernel_rfl
@[go_sem] theorem ty_293_1597 : tagg Tryz.prog 293 = some false := by kernel_rfl
@[go_sem] theorem ty_293_1598 : blksz Tryz.prog 293 = some 1 := by kernel_rfl
@[go_sem] theorem ty_294_1599 : tsz Tryz.prog 294 = some 1 := by kernel_rfl
@[go_sem] theorem ty_294_1600 : tbytes Tryz.prog 294 = some 8 := by kernel_rfl
@[go_sem] theorem ty_294_1601 : tzero Tryz.prog 294 = some [.pointer none] := by kernel_rfl
@[go_sem] theorem ty_294_1602 : tagg Tryz.prog 294 = some false := by kernel_rfl
@[go_sem] theorem ty_294_1603 : blksz Tryz.prog 294 = some 1 := by kernel_rfl
@[go_sem] theorem ty_295_1604 : tsz Tryz.prog 295 = some 1 := by kernel_rfl
@[go_sem] theorem ty_295_1605 : tbytes Tryz.prog 295 = some 8 := by kernel_rfl
@[go_sem] theorem ty_295_1606 : tzero Tryz.prog 295 = some [.nilFunc] := by kernel_rfl
@[go_sem] theorem ty_295_1607 : tagg Tryz.prog 295 = some false := by kernel_rfl
@[go_sem] theorem ty_295_1608 : blksz Tryz.prog 295 = some 1 := by kernel_rfl
@[go_sem] theorem ty_296_1609 : tsz Tryz.prog 296 = some 4 := by kernel_rfl
@[go_sem] theorem ty_296_1610 : tbytes Tryz.prog 296 = some 40 := by kernel_rfl
@[go_sem] theorem ty_296_1611 : tzero Tryz.prog 296 = some [.pointer none, .pointer none, .pointer none, .string ByteArray.empty] := by kernel_rfl
@[go_sem] theorem ty_296_1612 : tagg Tryz.prog 296 = some true := by kernel_rfl
@[go_sem] theorem ty_296_1613 : tarr Tryz.prog 296 = none := by kernel_rfl
@[go_sem] theorem ty_296_1614 : blksz Tryz.prog 296 = some 4 := by kernel_rfl
@[go_sem] theorem ty_296_1615 : tplaces Tryz.prog 296 = some [(0, 1), (1, 1), (2, 1), (3, 1)] := by kernel_rfl
@[go_sem] theorem ty_296_1616 : tfield Tryz.prog 296 0 = some (0, 17) := by kernel_rfl
@[go_sem] theorem ty_296_1617 : tfield Tryz.prog 296 1 = some (1, 17) := by kernel_rfl
@[go_sem] theorem ty_296_1618 : tfield Tryz.prog 296 2 = some (2, 17) := by kernel_rfl
@[go_sem] theorem ty_296_1619 : tfield Tryz.prog 296 3 = some (3, 9) := by kernel_rfl
@[go_sem] theorem ty_297_1620 : tsz Tryz.prog 297 = some 4 := by kernel_rfl
@[go_sem] theorem ty_297_1621 : tbytes Tryz.prog 297 = some 40 := by kernel_rfl
@[go_sem] theorem ty_297_1622 : tzero Tryz.prog 297 = some [.pointer none, .pointer none, .pointer none, .string ByteArray.empty] := by kernel_rfl
@[go_sem] theorem ty_297_1623 : tagg Tryz.prog 297 = some true := by kernel_rfl
@[go_sem] theorem ty_297_1624 : tarr Tryz.prog 297 = none := by kernel_rfl
@[go_sem] theorem ty_297_1625 : blksz Tryz.prog 297 = some 4 := by kernel_rfl
@[go_sem] theorem ty_297_1626 : tplaces Tryz.prog 297 = some [(0, 1), (1, 1), (2, 1), (3, 1)] := by kernel_rfl
@[go_sem] theorem ty_297_1627 : tfield Tryz.prog 297 0 = some (0, 17) := by kernel_rfl
@[go_sem] theorem ty_297_1628 : tfield Tryz.prog 297 1 = some (1, 17) := by kernel_rfl
@[go_sem] theorem ty_297_1629 : tfield Tryz.prog 297 2 = some (2, 17) := by kernel_rfl
@[go_sem] theorem ty_297_1630 : tfield Tryz.prog 297 3 = some (3, 9) := by kernel_rfl
@[go_sem] theorem ty_298_1631 : tsz Tryz.prog 298 = some 0 := by kernel_rfl
@[go_sem] theorem ty_298_1632 : tbytes Tryz.prog 298 = some 0 := by kernel_rfl
@[go_sem] theorem ty_298_1633 : tzero Tryz.prog 298 = some [] := by kernel_rfl
@[go_sem] theorem ty_298_1634 : tagg Tryz.prog 298 = some true := by kernel_rfl
@[go_sem] theorem ty_298_1635 : tarr Tryz.prog 298 = some (0, 16) := by kernel_rfl
@[go_sem] theorem ty_298_1636 : blksz Tryz.prog 298 = some 1 := by kernel_rfl
@[go_sem] theorem ty_298_1637 : tplaces Tryz.prog 298 = none := by kernel_rfl
@[go_sem] theorem ty_299_1638 : tsz Tryz.prog 299 = some 0 := by kernel_rfl
@[go_sem] theorem ty_299_1639 : tbytes Tryz.prog 299 = some 0 := by kernel_rfl
@[go_sem] theorem ty_299_1640 : tzero Tryz.prog 299 = some [] := by kernel_rfl
@[go_sem] theorem ty_299_1641 : tagg Tryz.prog 299 = some true := by kernel_rfl
@[go_sem] theorem ty_299_1642 : tarr Tryz.prog 299 = none := by kernel_rfl
@[go_sem] theorem ty_299_1643 : blksz Tryz.prog 299 = some 0 := by kernel_rfl
@[go_sem] theorem ty_299_1644 : tplaces Tryz.prog 299 = some [(0, 0)] := by kernel_rfl
@[go_sem] theorem ty_299_1645 : tfield Tryz.prog 299 0 = some (0, 298) := by kernel_rfl
@[go_sem] theorem ty_300_1646 : tsz Tryz.prog 300 = some 0 := by kernel_rfl
@[go_sem] theorem ty_300_1647 : tbytes Tryz.prog 300 = some 0 := by kernel_rfl
@[go_sem] theorem ty_300_1648 : tzero Tryz.prog 300 = some [] := by kernel_rfl
@[go_sem] theorem ty_300_1649 : tagg Tryz.prog 300 = some true := by kernel_rfl
@[go_sem] theorem ty_300_1650 : tarr Tryz.prog 300 = none := by kernel_rfl
@[go_sem] theorem ty_300_1651 : blksz Tryz.prog 300 = some 0 := by kernel_rfl
@[go_sem] theorem ty_300_1652 : tplaces Tryz.prog 300 = some [(0, 0)] := by kernel_rfl
@[go_sem] theorem ty_300_1653 : tfield Tryz.prog 300 0 = some (0, 298) := by kernel_rfl
@[go_sem] theorem ty_301_1654 : tsz Tryz.prog 301 = some 1 := by kernel_rfl
@[go_sem] theorem ty_301_1655 : tbytes Tryz.prog 301 = some 8 := by kernel_rfl
@[go_sem] theorem ty_301_1656 : tzero Tryz.prog 301 = some [.nilFunc] := by kernel_rfl
@[go_sem] theorem ty_301_1657 : tagg Tryz.prog 301 = some false := by kernel_rfl
@[go_sem] theorem ty_301_1658 : blksz Tryz.prog 301 = some 1 := by kernel_rfl
@[go_sem] theorem ty_302_1659 : tsz Tryz.prog 302 = some 1 := by kernel_rfl
@[go_sem] theorem ty_302_1660 : tbytes Tryz.prog 302 = some 1 := by kernel_rfl
@[go_sem] theorem ty_302_1661 : tzero Tryz.prog 302 = some [.int .u8 0] := by kernel_rfl
@[go_sem] theorem ty_302_1662 : tagg Tryz.prog 302 = some false := by kernel_rfl
@[go_sem] theorem ty_302_1663 : tint Tryz.prog 302 = some .u8 := by kernel_rfl
@[go_sem] theorem ty_302_1664 : blksz Tryz.prog 302 = some 1 := by kernel_rfl
@[go_sem] theorem ty_303_1665 : tsz Tryz.prog 303 = some 1 := by kernel_rfl
@[go_sem] theorem ty_303_1666 : tbytes Tryz.prog 303 = some 1 := by kernel_rfl
@[go_sem] theorem ty_303_1667 : tzero Tryz.prog 303 = some [.int .u8 0] := by kernel_rfl
@[go_sem] theorem ty_303_1668 : tagg Tryz.prog 303 = some false := by kernel_rfl
@[go_sem] theorem ty_303_1669 : tint Tryz.prog 303 = some .u8 := by kernel_rfl
@[go_sem] theorem ty_303_1670 : blksz Tryz.prog 303 = some 1 := by kernel_rfl
@[go_sem] theorem ty_304_1671 : tsz Tryz.prog 304 = some 1 := by kernel_rfl
@[go_sem] theorem ty_304_1672 : tbytes Tryz.prog 304 = some 8 := by kernel_rfl
@[go_sem] theorem ty_304_1673 : tzero Tryz.prog 304 = some [.nilFunc] := by kernel_rfl
@[go_sem] theorem ty_304_1674 : tagg Tryz.prog 304 = some false := by kernel_rfl
@[go_sem] theorem ty_304_1675 : blksz Tryz.prog 304 = some 1 := by kernel_rfl
@[go_sem] theorem ty_305_1676 : tsz Tryz.prog 305 = some 1 := by kernel_rfl
@[go_sem] theorem ty_305_1677 : tbytes Tryz.prog 305 = some 8 := by kernel_rfl
@[go_sem] theorem ty_305_1678 : tzero Tryz.prog 305 = some [.pointer none] := by kernel_rfl
@[go_sem] theorem ty_305_1679 : tagg Tryz.prog 305 = some false := by kernel_rfl
@[go_sem] theorem ty_305_1680 : blksz Tryz.prog 305 = some 1 := by kernel_rfl
@[go_sem] theorem ty_306_1681 : tsz Tryz.prog 306 = some 1 := by kernel_rfl
@[go_sem] theorem ty_306_1682 : tbytes Tryz.prog 306 = some 4 := by kernel_rfl
@[go_sem] theorem ty_306_1683 : tzero Tryz.prog 306 = some [.int .i32 0] := by kernel_rfl
@[go_sem] theorem ty_306_1684 : tagg Tryz.prog 306 = some false := by kernel_rfl
@[go_sem] theorem ty_306_1685 : tint Tryz.prog 306 = some .i32 := by kernel_rfl
@[go_sem] theorem ty_306_1686 : blksz Tryz.prog 306 = some 1 := by kernel_rfl
@[go_sem] theorem ty_307_1687 : tsz Tryz.prog 307 = some 1 := by kernel_rfl
@[go_sem] theorem ty_307_1688 : tbytes Tryz.prog 307 = some 4 := by kernel_rfl
@[go_sem] theorem ty_307_1689 : tzero Tryz.prog 307 = some [.int .i32 0] := by kernel_rfl
@[go_sem] theorem ty_307_1690 : tagg Tryz.prog 307 = some false := by kernel_rfl
@[go_sem] theorem ty_307_1691 : tint Tryz.prog 307 = some .i32 := by kernel_rfl
@[go_sem] theorem ty_307_1692 : blksz Tryz.prog 307 = some 1 := by kernel_rfl
@[go_sem] theorem ty_308_1693 : tsz Tryz.prog 308 = some 11 := by kernel_rfl
@[go_sem] theorem ty_308_1694 : tbytes Tryz.prog 308 = some 48 := by kernel_rfl
@[go_sem] theorem ty_308_1695 : tzero Tryz.prog 308 = some [.int .u64 0, .int .u64 0, .int .u32 0, .int .u8 0, .int .u8 0, .int .u8 0, .int .u8 0, .nilFunc, .pointer none, .int .i32 0, .int .i32 0] := by kernel_rfl
@[go_sem] theorem ty_308_1696 : tagg Tryz.prog 308 = some true := by kernel_rfl
@[go_sem] theorem ty_308_1697 : tarr Tryz.prog 308 = none := by kernel_rfl
@[go_sem] theorem ty_308_1698 : blksz Tryz.prog 308 = some 11 := by kernel_rfl
@[go_sem] theorem ty_308_1699 : tplaces Tryz.prog 308 = some [(0, 1), (1, 1), (2, 1), (3, 1), (4, 1), (5, 1), (6, 1), (7, 1), (8, 1), (9, 1), (10, 1)] := by kernel_rfl
@[go_sem] theorem ty_308_1700 : tfield Tryz.prog 308 0 = some (0, 12) := by kernel_rfl
@[go_sem] theorem ty_308_1701 : tfield Tryz.prog 308 1 = some (1, 12) := by kernel_rfl
@[go_sem] theorem ty_308_1702 : tfield Tryz.prog 308 2 = some (2, 262) := by kernel_rfl
@[go_sem] theorem ty_308_1703 : tfield Tryz.prog 308 3 = some (3, 302) := by kernel_rfl
@[go_sem] theorem ty_308_1704 : tfield Tryz.prog 308 4 = some (4, 5) := by kernel_rfl
@[go_sem] theorem ty_308_1705 : tfield Tryz.prog 308 5 = some (5, 5) := by kernel_rfl
@[go_sem] theorem ty_308_1706 : tfield Tryz.prog 308 6 = some (6, 303) := by kernel_rfl
@[go_sem] theorem ty_308_1707 : tfield Tryz.prog 308 7 = some (7, 304) := by kernel_rfl
@[go_sem] theorem ty_308_1708 : tfield Tryz.prog 308 8 = some (8, 305) := by kernel_rfl
@[go_sem] theorem ty_308_1709 : tfield Tryz.prog 308 9 = some (9, 306) := by kernel_rfl
@[go_sem] theorem ty_308_1710 : tfield Tryz.prog 308 10 = some (10, 307) := by kernel_rfl
@[go_sem] theorem ty_309_1711 : tsz Tryz.prog 309 = some 11 := by kernel_rfl
@[go_sem] theorem ty_309_1712 : tbytes Tryz.prog 309 = some 48 := by kernel_rfl
@[go_sem] theorem ty_309_1713 : tzero Tryz.prog 309 = some [.int .u64 0, .int .u64 0, .int .u32 0, .int .u8 0, .int .u8 0, .int .u8 0, .int .u8 0, .nilFunc, .pointer none, .int .i32 0, .int .i32 0] := by kernel_rfl
@[go_sem] theorem ty_309_1714 : tagg Tryz.prog 309 = some true := by kernel_rfl
@[go_sem] theorem ty_309_1715 : tarr Tryz.prog 309 = none := by kernel_rfl
@[go_sem] theorem ty_309_1716 : blksz Tryz.prog 309 = some 11 := by kernel_rfl
@[go_sem] theorem ty_309_1717 : tplaces Tryz.prog 309 = some [(0, 1), (1, 1), (2, 1), (3, 1), (4, 1), (5, 1), (6, 1), (7, 1), (8, 1), (9, 1), (10, 1)] := by kernel_rfl
@[go_sem] theorem ty_309_1718 : tfield Tryz.prog 309 0 = some (0, 12) := by kernel_rfl
@[go_sem] theorem ty_309_1719 : tfield Tryz.prog 309 1 = some (1, 12) := by kernel_rfl
@[go_sem] theorem ty_309_1720 : tfield Tryz.prog 309 2 = some (2, 262) := by kernel_rfl
@[go_sem] theorem ty_309_1721 : tfield Tryz.prog 309 3 = some (3, 302) := by kernel_rfl
@[go_sem] theorem ty_309_1722 : tfield Tryz.prog 309 4 = some (4, 5) := by kernel_rfl
@[go_sem] theorem ty_309_1723 : tfield Tryz.prog 309 5 = some (5, 5) := by kernel_rfl
@[go_sem] theorem ty_309_1724 : tfield Tryz.prog 309 6 = some (6, 303) := by kernel_rfl
@[go_sem] theorem ty_309_1725 : tfield Tryz.prog 309 7 = some (7, 304) := by kernel_rfl
@[go_sem] theorem ty_309_1726 : tfield Tryz.prog 309 8 = some (8, 305) := by kernel_rfl
@[go_sem] theorem ty_309_1727 : tfield Tryz.prog 309 9 = some (9, 306) := by kernel_rfl
@[go_sem] theorem ty_309_1728 : tfield Tryz.prog 309 10 = some (10, 307) := by kernel_rfl
@[go_sem] theorem ty_310_1729 : tsz Tryz.prog 310 = some 1 := by kernel_rfl
@[go_sem] theorem ty_310_1730 : tbytes Tryz.prog 310 = some 16 := by kernel_rfl
@[go_sem] theorem ty_310_1731 : tzero Tryz.prog 310 = some [.string ByteArray.empty] := by kernel_rfl
@[go_sem] theorem ty_310_1732 : tagg Tryz.prog 310 = some true := by kernel_rfl
@[go_sem] theorem ty_310_1733 : tarr Tryz.prog 310 = none := by kernel_rfl
@[go_sem] theorem ty_310_1734 : blksz Tryz.prog 310 = some 1 := by kernel_rfl
@[go_sem] theorem ty_310_1735 : tplaces Tryz.prog 310 = some [(0, 1)] := by kernel_rfl
@[go_sem] theorem ty_310_1736 : structK Tryz.prog 310 = some [2] := by kernel_rfl
@[go_sem] theorem ty_310_1737 : tfield Tryz.prog 310 0 = some (0, 9) := by kernel_rfl
@[go_sem] theorem ty_311_1738 : tsz Tryz.prog 311 = some 1 := by kernel_rfl
@[go_sem] theorem ty_311_1739 : tbytes Tryz.prog 311 = some 16 := by kernel_rfl
@[go_sem] theorem ty_311_1740 : tzero Tryz.prog 311 = some [.string ByteArray.empty] := by kernel_rfl
@[go_sem] theorem ty_311_1741 : tagg Tryz.prog 311 = some true := by kernel_rfl
@[go_sem] theorem ty_311_1742 : tarr Tryz.prog 311 = none := by kernel_rfl
@[go_sem] theorem ty_311_1743 : blksz Tryz.prog 311 = some 1 := by kernel_rfl
@[go_sem] theorem ty_311_1744 : tplaces Tryz.prog 311 = some [(0, 1)] := by kernel_rfl
@[go_sem] theorem ty_311_1745 : structK Tryz.prog 311 = some [2] := by kernel_rfl
@[go_sem] theorem ty_311_1746 : tfield Tryz.prog 311 0 = some (0, 9) := by kernel_rfl
@[go_sem] theorem ty_312_1747 : tsz Tryz.prog 312 = some 1 := by kernel_rfl
@[go_sem] theorem ty_312_1748 : tbytes Tryz.prog 312 = some 8 := by kernel_rfl
@[go_sem] theorem ty_312_1749 : tzero Tryz.prog 312 = some [.pointer none] := by kernel_rfl
@[go_sem] theorem ty_312_1750 : tagg Tryz.prog 312 = some false := by kernel_rfl
@[go_sem] theorem ty_312_1751 : blksz Tryz.prog 312 = some 1 := by kernel_rfl
@[go_sem] theorem res_0 : Tryz.f0.results = #[] := rfl
@[go_sem] theorem res_1 : Tryz.f1.results = #[] := rfl
@[go_sem] theorem res_2 : Tryz.f2.results = #[] := rfl
@[go_sem] theorem res_3 : Tryz.f3.results = #[ResultVar.tmp 6] := rfl
@[go_sem] theorem res_4 : Tryz.f4.results = #[ResultVar.tmp 4] := rfl
@[go_sem] theorem res_5 : Tryz.f5.results = #[ResultVar.tmp 4] := rfl
@[go_sem] theorem res_6 : Tryz.f6.results = #[ResultVar.tmp 6] := rfl
@[go_sem] theorem res_7 : Tryz.f7.results = #[ResultVar.tmp 6] := rfl
@[go_sem] theorem res_8 : Tryz.f8.results = #[ResultVar.tmp 6] := rfl
@[go_sem] theorem res_9 : Tryz.f9.results = #[ResultVar.tmp 4] := rfl
@[go_sem] theorem res_10 : Tryz.f10.results = #[ResultVar.tmp 6] := rfl
@[go_sem] theorem res_11 : Tryz.f11.results = #[ResultVar.tmp 4] := rfl
@[go_sem] theorem res_12 : Tryz.f12.results = #[ResultVar.tmp 6] := rfl
@[go_sem] theorem res_13 : Tryz.f13.results = #[ResultVar.tmp 0] := rfl
@[go_sem] theorem res_14 : Tryz.f14.results = #[ResultVar.tmp 6] := rfl
@[go_sem] theorem res_15 : Tryz.f15.results = #[ResultVar.tmp 6] := rfl
@[go_sem] theorem res_16 : Tryz.f16.results = #[ResultVar.cell 2 28] := rfl
@[go_sem] theorem res_17 : Tryz.f17.results = #[ResultVar.cell 4 28] := rfl
@[go_sem] theorem res_18 : Tryz.f18.results = #[ResultVar.cell 4 28] := rfl
@[go_sem] theorem res_19 : Tryz.f19.results = #[ResultVar.tmp 4, ResultVar.tmp 5] := rfl
@[go_sem] theorem res_20 : Tryz.f20.results = #[ResultVar.tmp 4] := rfl
@[go_sem] theorem res_21 : Tryz.f21.results = #[ResultVar.tmp 2] := rfl
@[go_sem] theorem res_22 : Tryz.f22.results = #[ResultVar.cell 4 39] := rfl
@[go_sem] theorem res_23 : Tryz.f23.results = #[ResultVar.cell 2 39] := rfl
@[go_sem] theorem res_24 : Tryz.f24.results = #[ResultVar.tmp 2] := rfl
@[go_sem] theorem res_25 : Tryz.f25.results = #[ResultVar.cell 2 39] := rfl
@[go_sem] theorem res_26 : Tryz.f26.results = #[ResultVar.tmp 4, ResultVar.tmp 5] := rfl
@[go_sem] theorem res_27 : Tryz.f27.results = #[ResultVar.tmp 4, ResultVar.tmp 5] := rfl
@[go_sem] theorem res_28 : Tryz.f28.results = #[ResultVar.tmp 4, ResultVar.tmp 5] := rfl
@[go_sem] theorem res_29 : Tryz.f29.results = #[ResultVar.tmp 4] := rfl
@[go_sem] theorem res_30 : Tryz.f30.results = #[ResultVar.tmp 4] := rfl
@[go_sem] theorem res_31 : Tryz.f31.results = #[ResultVar.tmp 4] := rfl
@[go_sem] theorem res_32 : Tryz.f32.results = #[ResultVar.tmp 4] := rfl
@[go_sem] theorem res_33 : Tryz.f33.results = #[ResultVar.tmp 4] := rfl
@[go_sem] theorem res_34 : Tryz.f34.results = #[ResultVar.tmp 4] := rfl
@[go_sem] theorem res_35 : Tryz.f35.results = #[ResultVar.tmp 4, ResultVar.tmp 5] := rfl
@[go_sem] theorem res_36 : Tryz.f36.results = #[ResultVar.tmp 4, ResultVar.tmp 5] := rfl
@[go_sem] theorem res_37 : Tryz.f37.results = #[ResultVar.tmp 2, ResultVar.tmp 3] := rfl
@[go_sem] theorem res_38 : Tryz.f38.results = #[ResultVar.tmp 2] := rfl
@[go_sem] theorem res_39 : Tryz.f39.results = #[ResultVar.tmp 4] := rfl
@[go_sem] theorem res_40 : Tryz.f40.results = #[ResultVar.tmp 2] := rfl
@[go_sem] theorem res_41 : Tryz.f41.results = #[ResultVar.tmp 4] := rfl
@[go_sem] theorem res_42 : Tryz.f42.results = #[ResultVar.tmp 0] := rfl
@[go_sem] theorem res_43 : Tryz.f43.results = #[ResultVar.tmp 4] := rfl
@[go_sem] theorem res_44 : Tryz.f44.results = #[ResultVar.tmp 4] := rfl
@[go_sem] theorem res_45 : Tryz.f45.results = #[ResultVar.tmp 4] := rfl
@[go_sem] theorem res_46 : Tryz.f46.results = #[ResultVar.tmp 6, ResultVar.tmp 7] := rfl
@[go_sem] theorem res_47 : Tryz.f47.results = #[ResultVar.tmp 4] := rfl
@[go_sem] theorem res_48 : Tryz.f48.results = #[ResultVar.cell 2 78] := rfl
@[go_sem] theorem res_49 : Tryz.f49.results = #[ResultVar.tmp 4] := rfl
@[go_sem] theorem res_50 : Tryz.f50.results = #[ResultVar.tmp 6, ResultVar.tmp 7] := rfl
@[go_sem] theorem res_51 : Tryz.f51.results = #[ResultVar.tmp 4] := rfl
@[go_sem] theorem res_52 : Tryz.f52.results = #[ResultVar.tmp 2, ResultVar.tmp 3] := rfl
@[go_sem] theorem res_53 : Tryz.f53.results = #[ResultVar.tmp 4, ResultVar.tmp 5] := rfl
@[go_sem] theorem res_54 : Tryz.f54.results = #[ResultVar.tmp 4] := rfl
@[go_sem] theorem res_55 : Tryz.f55.results = #[ResultVar.tmp 4] := rfl
@[go_sem] theorem res_56 : Tryz.f56.results = #[ResultVar.tmp 6] := rfl
@[go_sem] theorem res_57 : Tryz.f57.results = #[ResultVar.tmp 4, ResultVar.tmp 5] := rfl
@[go_sem] theorem res_58 : Tryz.f58.results = #[ResultVar.tmp 6, ResultVar.tmp 7] := rfl
@[go_sem] theorem res_59 : Tryz.f59.results = #[ResultVar.tmp 4] := rfl
@[go_sem] theorem res_60 : Tryz.f60.results = #[ResultVar.tmp 4] := rfl
@[go_sem] theorem res_61 : Tryz.f61.results = #[ResultVar.tmp 6] := rfl
@[go_sem] theorem res_62 : Tryz.f62.results = #[ResultVar.tmp 6] := rfl
@[go_sem] theorem res_63 : Tryz.f63.results = #[ResultVar.tmp 4] := rfl
@[go_sem] theorem res_64 : Tryz.f64.results = #[ResultVar.tmp 2] := rfl
@[go_sem] theorem res_65 : Tryz.f65.results = #[ResultVar.tmp 4, ResultVar.tmp 5] := rfl
@[go_sem] theorem res_66 : Tryz.f66.results = #[ResultVar.tmp 2, ResultVar.tmp 3] := rfl
@[go_sem] theorem res_67 : Tryz.f67.results = #[ResultVar.tmp 2] := rfl
@[go_sem] theorem res_68 : Tryz.f68.results = #[ResultVar.tmp 2] := rfl
@[go_sem] theorem res_69 : Tryz.f69.results = #[ResultVar.tmp 4] := rfl
@[go_sem] theorem res_70 : Tryz.f70.results = #[ResultVar.tmp 2] := rfl
@[go_sem] theorem res_71 : Tryz.f71.results = #[ResultVar.tmp 2] := rfl
@[go_sem] theorem res_72 : Tryz.f72.results = #[ResultVar.tmp 4] := rfl
@[go_sem] theorem res_73 : Tryz.f73.results = #[ResultVar.tmp 4] := rfl
@[go_sem] theorem res_74 : Tryz.f74.results = #[ResultVar.tmp 6, ResultVar.tmp 7] := rfl
@[go_sem] theorem res_75 : Tryz.f75.results = #[ResultVar.tmp 4] := rfl
@[go_sem] theorem res_76 : Tryz.f76.results = #[ResultVar.tmp 2] := rfl
@[go_sem] theorem res_77 : Tryz.f77.results = #[ResultVar.tmp 4] := rfl
@[go_sem] theorem res_78 : Tryz.f78.results = #[ResultVar.tmp 4] := rfl
@[go_sem] theorem res_79 : Tryz.f79.results = #[ResultVar.tmp 4] := rfl
@[go_sem] theorem res_80 : Tryz.f80.results = #[ResultVar.tmp 3] := rfl
@[go_sem] theorem res_81 : Tryz.f81.results = #[ResultVar.tmp 2] := rfl
@[go_sem] theorem res_82 : Tryz.f82.results = #[ResultVar.cell 4 39] := rfl
@[go_sem] theorem res_83 : Tryz.f83.results = #[ResultVar.tmp 4] := rfl
@[go_sem] theorem res_84 : Tryz.f84.results = #[ResultVar.tmp 2] := rfl
@[go_sem] theorem res_85 : Tryz.f85.results = #[ResultVar.tmp 2] := rfl
@[go_sem] theorem res_86 : Tryz.f86.results = #[ResultVar.cell 4 28] := rfl
@[go_sem] theorem res_87 : Tryz.f87.results = #[ResultVar.tmp 4] := rfl
@[go_sem] theorem res_88 : Tryz.f88.results = #[ResultVar.tmp 4] := rfl
@[go_sem] theorem res_89 : Tryz.f89.results = #[ResultVar.tmp 4] := rfl
@[go_sem] theorem res_90 : Tryz.f90.results = #[ResultVar.tmp 2] := rfl
@[go_sem] theorem res_91 : Tryz.f91.results = #[ResultVar.tmp 2] := rfl
@[go_sem] theorem res_92 : Tryz.f92.results = #[ResultVar.tmp 4] := rfl
@[go_sem] theorem res_93 : Tryz.f93.results = #[ResultVar.tmp 2] := rfl
@[go_sem] theorem res_94 : Tryz.f94.results = #[ResultVar.tmp 2] := rfl
@[go_sem] theorem res_95 : Tryz.f95.results = #[ResultVar.tmp 2] := rfl
@[go_sem] theorem res_96 : Tryz.f96.results = #[ResultVar.tmp 4] := rfl
@[go_sem] theorem res_97 : Tryz.f97.results = #[ResultVar.cell 2 39] := rfl
@[go_sem] theorem res_98 : Tryz.f98.results = #[ResultVar.cell 4 28] := rfl
@[go_sem] theorem res_99 : Tryz.f99.results = #[ResultVar.cell 2 28] := rfl
@[go_sem] theorem res_100 : Tryz.f100.results = #[ResultVar.cell 4 39] := rfl
@[go_sem] theorem res_101 : Tryz.f101.results = #[ResultVar.cell 2 28] := rfl
@[go_sem] theorem res_102 : Tryz.f102.results = #[ResultVar.tmp 2] := rfl
@[go_sem] theorem res_103 : Tryz.f103.results = #[ResultVar.tmp 2] := rfl
@[go_sem] theorem res_104 : Tryz.f104.results = #[ResultVar.tmp 4, ResultVar.cell 5 28] := rfl
@[go_sem] theorem res_105 : Tryz.f105.results = #[ResultVar.tmp 6] := rfl
@[go_sem] theorem res_106 : Tryz.f106.results = #[ResultVar.tmp 2] := rfl
@[go_sem] theorem res_107 : Tryz.f107.results = #[ResultVar.tmp 4] := rfl
@[go_sem] theorem res_108 : Tryz.f108.results = #[ResultVar.tmp 2] := rfl
@[go_sem] theorem res_109 : Tryz.f109.results = #[ResultVar.tmp 2] := rfl
@[go_sem] theorem res_110 : Tryz.f110.results = #[ResultVar.tmp 4] := rfl
@[go_sem] theorem res_111 : Tryz.f111.results = #[ResultVar.tmp 4] := rfl
@[go_sem] theorem res_112 : Tryz.f112.results = #[ResultVar.tmp 4] := rfl
@[go_sem] theorem res_113 : Tryz.f113.results = #[ResultVar.tmp 4] := rfl
@[go_sem] theorem res_114 : Tryz.f114.results = #[ResultVar.tmp 4] := rfl
@[go_sem] theorem res_115 : Tryz.f115.results = #[ResultVar.cell 4 39] := rfl
@[go_sem] theorem res_116 : Tryz.f116.results = #[ResultVar.tmp 6, ResultVar.tmp 7] := rfl
@[go_sem] theorem res_117 : Tryz.f117.results = #[ResultVar.tmp 2] := rfl
@[go_sem] theorem res_118 : Tryz.f118.results = #[ResultVar.tmp 4] := rfl
@[go_sem] theorem res_119 : Tryz.f119.results = #[ResultVar.tmp 3] := rfl
@[go_sem] theorem res_120 : Tryz.f120.results = #[ResultVar.tmp 4, ResultVar.tmp 5] := rfl
@[go_sem] theorem res_121 : Tryz.f121.results = #[ResultVar.tmp 2] := rfl
@[go_sem] theorem res_122 : Tryz.f122.results = #[ResultVar.tmp 4] := rfl
@[go_sem] theorem res_123 : Tryz.f123.results = #[ResultVar.tmp 2] := rfl
@[go_sem] theorem res_124 : Tryz.f124.results = #[ResultVar.tmp 4] := rfl
@[go_sem] theorem res_125 : Tryz.f125.results = #[ResultVar.tmp 4] := rfl
@[go_sem] theorem res_126 : Tryz.f126.results = #[ResultVar.tmp 4] := rfl
@[go_sem] theorem res_127 : Tryz.f127.results = #[ResultVar.tmp 4] := rfl
@[go_sem] theorem res_128 : Tryz.f128.results = #[ResultVar.tmp 2] := rfl
@[go_sem] theorem res_129 : Tryz.f129.results = #[ResultVar.tmp 2] := rfl
@[go_sem] theorem res_130 : Tryz.f130.results = #[ResultVar.tmp 2] := rfl
@[go_sem] theorem res_131 : Tryz.f131.results = #[ResultVar.tmp 2] := rfl
@[go_sem] theorem res_132 : Tryz.f132.results = #[ResultVar.tmp 2] := rfl
@[go_sem] theorem res_133 : Tryz.f133.results = #[ResultVar.tmp 4, ResultVar.tmp 5] := rfl
@[go_sem] theorem res_134 : Tryz.f134.results = #[ResultVar.tmp 4] := rfl
@[go_sem] theorem res_135 : Tryz.f135.results = #[ResultVar.tmp 4] := rfl
@[go_sem] theorem res_136 : Tryz.f136.results = #[ResultVar.tmp 2] := rfl
@[go_sem] theorem res_137 : Tryz.f137.results = #[ResultVar.cell 4 39] := rfl
@[go_sem] theorem res_138 : Tryz.f138.results = #[ResultVar.tmp 2] := rfl
@[go_sem] theorem res_139 : Tryz.f139.results = #[ResultVar.cell 4 39] := rfl
@[go_sem] theorem res_140 : Tryz.f140.results = #[ResultVar.tmp 4] := rfl
@[go_sem] theorem res_141 : Tryz.f141.results = #[ResultVar.tmp 4] := rfl
@[go_sem] theorem res_142 : Tryz.f142.results = #[ResultVar.cell 4 165] := rfl
@[go_sem] theorem res_143 : Tryz.f143.results = #[ResultVar.tmp 6] := rfl
@[go_sem] theorem res_144 : Tryz.f144.results = #[ResultVar.tmp 6] := rfl
@[go_sem] theorem res_145 : Tryz.f145.results = #[ResultVar.tmp 4] := rfl
@[go_sem] theorem res_146 : Tryz.f146.results = #[ResultVar.tmp 2, ResultVar.tmp 3] := rfl
@[go_sem] theorem res_147 : Tryz.f147.results = #[ResultVar.tmp 2] := rfl
@[go_sem] theorem res_148 : Tryz.f148.results = #[] := rfl
@[go_sem] theorem res_149 : Tryz.f149.results = #[ResultVar.tmp 4] := rfl
@[go_sem] theorem res_150 : Tryz.f150.results = #[ResultVar.tmp 4] := rfl
@[go_sem] theorem res_151 : Tryz.f151.results = #[ResultVar.tmp 2] := rfl
@[go_sem] theorem res_152 : Tryz.f152.results = #[ResultVar.tmp 4] := rfl
@[go_sem] theorem res_153 : Tryz.f153.results = #[ResultVar.tmp 2] := rfl
@[go_sem] theorem res_154 : Tryz.f154.results = #[ResultVar.tmp 4] := rfl
@[go_sem] theorem res_155 : Tryz.f155.results = #[ResultVar.tmp 4] := rfl
@[go_sem] theorem res_156 : Tryz.f156.results = #[ResultVar.cell 2 78] := rfl
@[go_sem] theorem res_157 : Tryz.f157.results = #[ResultVar.tmp 2, ResultVar.tmp 3] := rfl
@[go_sem] theorem res_158 : Tryz.f158.results = #[ResultVar.tmp 6] := rfl
@[go_sem] theorem res_159 : Tryz.f159.results = #[ResultVar.tmp 4] := rfl
@[go_sem] theorem res_160 : Tryz.f160.results = #[ResultVar.tmp 4] := rfl
@[go_sem] theorem res_161 : Tryz.f161.results = #[ResultVar.tmp 4] := rfl
@[go_sem] theorem res_162 : Tryz.f162.results = #[ResultVar.tmp 2] := rfl
@[go_sem] theorem res_163 : Tryz.f163.results = #[ResultVar.tmp 2] := rfl
@[go_sem] theorem res_164 : Tryz.f164.results = #[ResultVar.tmp 2] := rfl
@[go_sem] theorem res_165 : Tryz.f165.results = #[ResultVar.tmp 4] := rfl
@[go_sem] theorem res_166 : Tryz.f166.results = #[ResultVar.cell 4 39] := rfl
@[go_sem] theorem res_167 : Tryz.f167.results = #[ResultVar.cell 4 39] := rfl
@[go_sem] theorem res_168 : Tryz.f168.results = #[ResultVar.tmp 6] := rfl
@[go_sem] theorem res_169 : Tryz.f169.results = #[ResultVar.tmp 4] := rfl
@[go_sem] theorem res_170 : Tryz.f170.results = #[ResultVar.tmp 2] := rfl
@[go_sem] theorem res_171 : Tryz.f171.results = #[ResultVar.tmp 2] := rfl
@[go_sem] theorem res_172 : Tryz.f172.results = #[ResultVar.tmp 4, ResultVar.tmp 5] := rfl
@[go_sem] theorem res_173 : Tryz.f173.results = #[ResultVar.tmp 4] := rfl
@[go_sem] theorem res_174 : Tryz.f174.results = #[ResultVar.tmp 4] := rfl
@[go_sem] theorem res_175 : Tryz.f175.results = #[ResultVar.tmp 4] := rfl
@[go_sem] theorem res_176 : Tryz.f176.results = #[ResultVar.tmp 2, ResultVar.tmp 3] := rfl
@[go_sem] theorem res_177 : Tryz.f177.results = #[ResultVar.tmp 2] := rfl
@[go_sem] theorem res_178 : Tryz.f178.results = #[ResultVar.tmp 2] := rfl
@[go_sem] theorem res_179 : Tryz.f179.results = #[ResultVar.tmp 2, ResultVar.tmp 3] := rfl
@[go_sem] theorem res_180 : Tryz.f180.results = #[ResultVar.cell 2 78, ResultVar.tmp 3] := rfl
@[go_sem] theorem res_181 : Tryz.f181.results = #[ResultVar.cell 2 39] := rfl
@[go_sem] theorem res_182 : Tryz.f182.results = #[ResultVar.tmp 2] := rfl
@[go_sem] theorem res_183 : Tryz.f183.results = #[ResultVar.tmp 4] := rfl
@[go_sem] theorem res_184 : Tryz.f184.results = #[ResultVar.cell 4 39] := rfl
@[go_sem] theorem res_185 : Tryz.f185.results = #[ResultVar.cell 4 39] := rfl
@[go_sem] theorem res_186 : Tryz.f186.results = #[ResultVar.tmp 4, ResultVar.tmp 5] := rfl
@[go_sem] theorem res_187 : Tryz.f187.results = #[ResultVar.tmp 2] := rfl
@[go_sem] theorem res_188 : Tryz.f188.results = #[ResultVar.cell 4 39] := rfl
@[go_sem] theorem res_189 : Tryz.f189.results = #[ResultVar.tmp 4, ResultVar.tmp 5] := rfl
@[go_sem] theorem res_190 : Tryz.f190.results = #[ResultVar.tmp 2, ResultVar.tmp 3] := rfl
@[go_sem] theorem res_191 : Tryz.f191.results = #[ResultVar.tmp 2] := rfl
@[go_sem] theorem res_192 : Tryz.f192.results = #[ResultVar.tmp 2] := rfl
@[go_sem] theorem res_193 : Tryz.f193.results = #[ResultVar.tmp 4] := rfl
@[go_sem] theorem res_194 : Tryz.f194.results = #[ResultVar.tmp 4] := rfl
@[go_sem] theorem res_195 : Tryz.f195.results = #[ResultVar.tmp 2] := rfl
@[go_sem] theorem res_196 : Tryz.f196.results = #[ResultVar.tmp 4] := rfl
@[go_sem] theorem res_197 : Tryz.f197.results = #[ResultVar.tmp 4] := rfl
@[go_sem] theorem res_198 : Tryz.f198.results = #[ResultVar.tmp 2] := rfl
@[go_sem] theorem res_199 : Tryz.f199.results = #[ResultVar.tmp 2] := rfl
@[go_sem] theorem res_200 : Tryz.f200.results = #[ResultVar.tmp 4] := rfl
@[go_sem] theorem res_201 : Tryz.f201.results = #[ResultVar.tmp 2] := rfl
@[go_sem] theorem res_202 : Tryz.f202.results = #[ResultVar.tmp 2] := rfl
@[go_sem] theorem res_203 : Tryz.f203.results = #[ResultVar.tmp 4] := rfl
@[go_sem] theorem res_204 : Tryz.f204.results = #[ResultVar.cell 2 39] := rfl
@[go_sem] theorem res_205 : Tryz.f205.results = #[ResultVar.tmp 2] := rfl
@[go_sem] theorem res_206 : Tryz.f206.results = #[ResultVar.tmp 2] := rfl
@[go_sem] theorem res_207 : Tryz.f207.results = #[ResultVar.tmp 2] := rfl
@[go_sem] theorem res_208 : Tryz.f208.results = #[ResultVar.tmp 2] := rfl
@[go_sem] theorem res_209 : Tryz.f209.results = #[ResultVar.tmp 2] := rfl
@[go_sem] theorem res_210 : Tryz.f210.results = #[ResultVar.tmp 2, ResultVar.tmp 3] := rfl
@[go_sem] theorem res_211 : Tryz.f211.results = #[ResultVar.tmp 4, ResultVar.tmp 5] := rfl
@[go_sem] theorem res_212 : Tryz.f212.results = #[ResultVar.tmp 2] := rfl
@[go_sem] theorem res_213 : Tryz.f213.results = #[ResultVar.tmp 4] := rfl
@[go_sem] theorem res_214 : Tryz.f214.results = #[ResultVar.tmp 6, ResultVar.tmp 7] := rfl
@[go_sem] theorem res_215 : Tryz.f215.results = #[ResultVar.tmp 5] := rfl
@[go_sem] theorem res_216 : Tryz.f216.results = #[ResultVar.tmp 4] := rfl
@[go_sem] theorem res_217 : Tryz.f217.results = #[ResultVar.tmp 4] := rfl
@[go_sem] theorem res_218 : Tryz.f218.results = #[ResultVar.tmp 2] := rfl
@[go_sem] theorem res_219 : Tryz.f219.results = #[ResultVar.tmp 4] := rfl
@[go_sem] theorem res_220 : Tryz.f220.results = #[] := rfl
@[go_sem] theorem res_221 : Tryz.f221.results = #[ResultVar.tmp 2] := rfl
@[go_sem] theorem res_222 : Tryz.f222.results = #[ResultVar.tmp 4] := rfl
@[go_sem] theorem res_223 : Tryz.f223.results = #[ResultVar.cell 4 28] := rfl
@[go_sem] theorem res_224 : Tryz.f224.results = #[ResultVar.tmp 4] := rfl
@[go_sem] theorem res_225 : Tryz.f225.results = #[ResultVar.tmp 2] := rfl
@[go_sem] theorem res_226 : Tryz.f226.results = #[ResultVar.tmp 4] := rfl
@[go_sem] theorem res_227 : Tryz.f227.results = #[ResultVar.tmp 2] := rfl
@[go_sem] theorem res_228 : Tryz.f228.results = #[ResultVar.tmp 4] := rfl
@[go_sem] theorem res_229 : Tryz.f229.results = #[ResultVar.tmp 3] := rfl
@[go_sem] theorem res_230 : Tryz.f230.results = #[ResultVar.tmp 4] := rfl
@[go_sem] theorem res_231 : Tryz.f231.results = #[ResultVar.tmp 2] := rfl
@[go_sem] theorem res_232 : Tryz.f232.results = #[ResultVar.tmp 2] := rfl
@[go_sem] theorem res_233 : Tryz.f233.results = #[ResultVar.tmp 6] := rfl
@[go_sem] theorem res_234 : Tryz.f234.results = #[ResultVar.tmp 4] := rfl
@[go_sem] theorem res_235 : Tryz.f235.results = #[ResultVar.tmp 4] := rfl
@[go_sem] theorem res_236 : Tryz.f236.results = #[ResultVar.tmp 2] := rfl
@[go_sem] theorem res_237 : Tryz.f237.results = #[ResultVar.tmp 2] := rfl
@[go_sem] theorem res_238 : Tryz.f238.results = #[ResultVar.tmp 2] := rfl
@[go_sem] theorem res_239 : Tryz.f239.results = #[ResultVar.tmp 4] := rfl
@[go_sem] theorem res_240 : Tryz.f240.results = #[ResultVar.tmp 3] := rfl
@[go_sem] theorem res_241 : Tryz.f241.results = #[ResultVar.cell 4 39] := rfl
@[go_sem] theorem res_242 : Tryz.f242.results = #[ResultVar.cell 2 28] := rfl
@[go_sem] theorem res_243 : Tryz.f243.results = #[ResultVar.cell 4 28, ResultVar.cell 5 28] := rfl
@[go_sem] theorem res_244 : Tryz.f244.results = #[ResultVar.tmp 4] := rfl
@[go_sem] theorem res_245 : Tryz.f245.results = #[ResultVar.tmp 2, ResultVar.tmp 3] := rfl
@[go_sem] theorem res_246 : Tryz.f246.results = #[ResultVar.tmp 2, ResultVar.tmp 3] := rfl
@[go_sem] theorem res_247 : Tryz.f247.results = #[ResultVar.cell 2 39] := rfl
@[go_sem] theorem res_248 : Tryz.f248.results = #[] := rfl
@[go_sem] theorem res_249 : Tryz.f249.results = #[ResultVar.tmp 2, ResultVar.tmp 3] := rfl
@[go_sem] theorem res_250 : Tryz.f250.results = #[ResultVar.cell 4 28] := rfl
@[go_sem] theorem res_251 : Tryz.f251.results = #[ResultVar.cell 2 39] := rfl
@[go_sem] theorem res_252 : Tryz.f252.results = #[ResultVar.tmp 2] := rfl
@[go_sem] theorem res_253 : Tryz.f253.results = #[ResultVar.cell 2 39] := rfl
@[go_sem] theorem res_254 : Tryz.f254.results = #[ResultVar.cell 4 28] := rfl
@[go_sem] theorem res_255 : Tryz.f255.results = #[ResultVar.tmp 2] := rfl
@[go_sem] theorem res_256 : Tryz.f256.results = #[ResultVar.tmp 2] := rfl
@[go_sem] theorem res_257 : Tryz.f257.results = #[ResultVar.tmp 2] := rfl
@[go_sem] theorem res_258 : Tryz.f258.results = #[ResultVar.tmp 6] := rfl
@[go_sem] theorem res_259 : Tryz.f259.results = #[ResultVar.cell 2 39] := rfl
@[go_sem] theorem res_260 : Tryz.f260.results = #[ResultVar.tmp 4, ResultVar.tmp 5] := rfl
@[go_sem] theorem res_261 : Tryz.f261.results = #[ResultVar.tmp 4] := rfl
@[go_sem] theorem res_262 : Tryz.f262.results = #[ResultVar.tmp 4] := rfl
@[go_sem] theorem res_263 : Tryz.f263.results = #[ResultVar.tmp 4] := rfl
@[go_sem] theorem res_264 : Tryz.f264.results = #[ResultVar.tmp 4] := rfl
@[go_sem] theorem res_265 : Tryz.f265.results = #[ResultVar.tmp 2] := rfl
@[go_sem] theorem res_266 : Tryz.f266.results = #[ResultVar.cell 4 39] := rfl
@[go_sem] theorem res_267 : Tryz.f267.results = #[ResultVar.cell 2 39] := rfl
@[go_sem] theorem res_268 : Tryz.f268.results = #[ResultVar.tmp 4] := rfl
@[go_sem] theorem res_269 : Tryz.f269.results = #[ResultVar.tmp 2] := rfl
@[go_sem] theorem res_270 : Tryz.f270.results = #[ResultVar.tmp 2] := rfl
@[go_sem] theorem res_271 : Tryz.f271.results = #[ResultVar.tmp 2] := rfl
@[go_sem] theorem res_272 : Tryz.f272.results = #[ResultVar.tmp 2] := rfl
@[go_sem] theorem res_273 : Tryz.f273.results = #[ResultVar.tmp 2] := rfl
@[go_sem] theorem res_274 : Tryz.f274.results = #[ResultVar.tmp 4] := rfl
@[go_sem] theorem res_275 : Tryz.f275.results = #[ResultVar.tmp 6] := rfl
@[go_sem] theorem res_276 : Tryz.f276.results = #[ResultVar.tmp 4] := rfl
@[go_sem] theorem res_277 : Tryz.f277.results = #[] := rfl
@[go_sem] theorem res_278 : Tryz.f278.results = #[] := rfl
@[go_sem] theorem res_279 : Tryz.f279.results = #[] := rfl
@[go_sem] theorem res_280 : Tryz.f280.results = #[ResultVar.tmp 8, ResultVar.tmp 9] := rfl
@[go_sem] theorem res_281 : Tryz.f281.results = #[] := rfl
@[go_sem] theorem res_282 : Tryz.f282.results = #[ResultVar.tmp 8] := rfl
@[go_sem] theorem res_283 : Tryz.f283.results = #[ResultVar.tmp 10] := rfl
@[go_sem] theorem res_284 : Tryz.f284.results = #[ResultVar.tmp 10, ResultVar.tmp 11] := rfl
@[go_sem] theorem res_285 : Tryz.f285.results = #[ResultVar.tmp 2] := rfl
@[go_sem] theorem res_286 : Tryz.f286.results = #[ResultVar.tmp 2] := rfl
@[go_sem] theorem res_287 : Tryz.f287.results = #[ResultVar.tmp 4] := rfl
@[go_sem] theorem res_288 : Tryz.f288.results = #[ResultVar.tmp 2] := rfl
@[go_sem] theorem res_289 : Tryz.f289.results = #[ResultVar.tmp 4] := rfl
@[go_sem] theorem res_290 : Tryz.f290.results = #[ResultVar.tmp 2] := rfl
@[go_sem] theorem res_291 : Tryz.f291.results = #[ResultVar.tmp 2] := rfl
@[go_sem] theorem res_292 : Tryz.f292.results = #[ResultVar.tmp 4] := rfl
@[go_sem] theorem res_293 : Tryz.f293.results = #[ResultVar.tmp 4] := rfl
@[go_sem] theorem res_294 : Tryz.f294.results = #[ResultVar.tmp 4] := rfl
@[go_sem] theorem res_295 : Tryz.f295.results = #[ResultVar.tmp 2] := rfl
@[go_sem] theorem res_296 : Tryz.f296.results = #[ResultVar.cell 0 28] := rfl
@[go_sem] theorem res_297 : Tryz.f297.results = #[ResultVar.tmp 4] := rfl
@[go_sem] theorem res_298 : Tryz.f298.results = #[ResultVar.tmp 4, ResultVar.tmp 5] := rfl
@[go_sem] theorem res_299 : Tryz.f299.results = #[ResultVar.tmp 2] := rfl
@[go_sem] theorem res_300 : Tryz.f300.results = #[ResultVar.tmp 4] := rfl
@[go_sem] theorem res_301 : Tryz.f301.results = #[ResultVar.tmp 4] := rfl
@[go_sem] theorem res_302 : Tryz.f302.results = #[ResultVar.tmp 2] := rfl
@[go_sem] theorem res_303 : Tryz.f303.results = #[ResultVar.tmp 2] := rfl
@[go_sem] theorem res_304 : Tryz.f304.results = #[ResultVar.tmp 4] := rfl
@[go_sem] theorem res_305 : Tryz.f305.results = #[ResultVar.cell 2 28] := rfl
@[go_sem] theorem res_306 : Tryz.f306.results = #[] := rfl
@[go_sem] theorem res_307 : Tryz.f307.results = #[ResultVar.tmp 4] := rfl
@[go_sem] theorem res_308 : Tryz.f308.results = #[ResultVar.tmp 4] := rfl
@[go_sem] theorem res_309 : Tryz.f309.results = #[ResultVar.tmp 4] := rfl
@[go_sem] theorem res_310 : Tryz.f310.results = #[ResultVar.cell 4 39] := rfl
@[go_sem] theorem res_311 : Tryz.f311.results = #[] := rfl
@[go_sem] theorem res_312 : Tryz.f312.results = #[ResultVar.tmp 2] := rfl
@[go_sem] theorem res_313 : Tryz.f313.results = #[ResultVar.tmp 2] := rfl
@[go_sem] theorem res_314 : Tryz.f314.results = #[ResultVar.tmp 8] := rfl
@[go_sem] theorem res_315 : Tryz.f315.results = #[ResultVar.tmp 12] := rfl
@[go_sem] theorem res_316 : Tryz.f316.results = #[ResultVar.tmp 2] := rfl
@[go_sem] theorem res_317 : Tryz.f317.results = #[ResultVar.tmp 4, ResultVar.tmp 5] := rfl
@[go_sem] theorem res_318 : Tryz.f318.results = #[] := rfl
@[go_sem] theorem res_319 : Tryz.f319.results = #[ResultVar.tmp 4, ResultVar.tmp 5] := rfl
@[go_sem] theorem res_320 : Tryz.f320.results = #[ResultVar.tmp 2] := rfl
@[go_sem] theorem res_321 : Tryz.f321.results = #[] := rfl
@[go_sem] theorem res_322 : Tryz.f322.results = #[ResultVar.cell 4 39] := rfl
@[go_sem] theorem res_323 : Tryz.f323.results = #[ResultVar.tmp 10, ResultVar.tmp 11] := rfl
@[go_sem] theorem res_324 : Tryz.f324.results = #[ResultVar.tmp 4] := rfl
@[go_sem] theorem res_325 : Tryz.f325.results = #[ResultVar.tmp 6, ResultVar.tmp 7] := rfl
@[go_sem] theorem res_326 : Tryz.f326.results = #[ResultVar.tmp 2] := rfl
@[go_sem] theorem res_327 : Tryz.f327.results = #[ResultVar.tmp 4] := rfl
@[go_sem] theorem res_328 : Tryz.f328.results = #[ResultVar.tmp 4] := rfl
@[go_sem] theorem res_329 : Tryz.f329.results = #[] := rfl
@[go_sem] theorem res_330 : Tryz.f330.results = #[] := rfl
@[go_sem] theorem res_331 : Tryz.f331.results = #[] := rfl
@[go_sem] theorem res_332 : Tryz.f332.results = #[] := rfl
@[go_sem] theorem res_333 : Tryz.f333.results = #[] := rfl
@[go_sem] theorem res_334 : Tryz.f334.results = #[] := rfl
@[go_sem] theorem res_335 : Tryz.f335.results = #[] := rfl
@[go_sem] theorem res_336 : Tryz.f336.results = #[] := rfl
@[go_sem] theorem res_337 : Tryz.f337.results = #[] := rfl
@[go_sem] theorem res_338 : Tryz.f338.results = #[] := rfl
@[go_sem] theorem res_339 : Tryz.f339.results = #[] := rfl
@[go_sem] theorem res_340 : Tryz.f340.results = #[] := rfl
@[go_sem] theorem res_341 : Tryz.f341.results = #[] := rfl
@[go_sem] theorem res_342 : Tryz.f342.results = #[] := rfl
@[go_sem] theorem res_343 : Tryz.f343.results = #[] := rfl
@[go_sem] theorem res_344 : Tryz.f344.results = #[] := rfl
@[go_sem] theorem res_345 : Tryz.f345.results = #[] := rfl
end Gx
end
