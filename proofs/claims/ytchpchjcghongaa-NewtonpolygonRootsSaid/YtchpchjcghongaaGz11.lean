/- What the types of the seat's program come to. (Printed by gxfacts.py.) -/
import Derived.Test.YtchpchjcghongaaGz10
import Derived.Test.YtchpchjcghongaaProg
import Derived.KernelRfl
set_option linter.all false
set_option linter.unusedVariables false
set_option linter.unusedSimpArgs false
set_option linter.unnecessarySimpa false
set_option linter.deprecated false
section
set_option autoImplicit false
namespace Gx
open Go Go.Proofs
@[go_sem] theorem ty_0_1 : tsz Try.prog 0 = some 1 := by kernel_rfl
@[go_sem] theorem ty_0_2 : tbytes Try.prog 0 = some 0 := by kernel_rfl
@[go_sem] theorem ty_0_3 : tagg Try.prog 0 = some false := by kernel_rfl
@[go_sem] theorem ty_0_4 : blksz Try.prog 0 = some 1 := by kernel_rfl
@[go_sem] theorem ty_1_5 : tsz Try.prog 1 = some 1 := by kernel_rfl
@[go_sem] theorem ty_1_6 : tbytes Try.prog 1 = some 8 := by kernel_rfl
@[go_sem] theorem ty_1_7 : tzero Try.prog 1 = some [.nilFunc] := by kernel_rfl
@[go_sem] theorem ty_1_8 : tagg Try.prog 1 = some false := by kernel_rfl
@[go_sem] theorem ty_1_9 : blksz Try.prog 1 = some 1 := by kernel_rfl
@[go_sem] theorem ty_2_10 : tsz Try.prog 2 = some 1 := by kernel_rfl
@[go_sem] theorem ty_2_11 : tbytes Try.prog 2 = some 8 := by kernel_rfl
@[go_sem] theorem ty_2_12 : tzero Try.prog 2 = some [.int .i64 0] := by kernel_rfl
@[go_sem] theorem ty_2_13 : tagg Try.prog 2 = some false := by kernel_rfl
@[go_sem] theorem ty_2_14 : tint Try.prog 2 = some .i64 := by kernel_rfl
@[go_sem] theorem ty_2_15 : blksz Try.prog 2 = some 1 := by kernel_rfl
@[go_sem] theorem ty_3_16 : tsz Try.prog 3 = some 1 := by kernel_rfl
@[go_sem] theorem ty_3_17 : tbytes Try.prog 3 = some 8 := by kernel_rfl
@[go_sem] theorem ty_3_18 : tzero Try.prog 3 = some [.int .i64 0] := by kernel_rfl
@[go_sem] theorem ty_3_19 : tagg Try.prog 3 = some false := by kernel_rfl
@[go_sem] theorem ty_3_20 : tint Try.prog 3 = some .i64 := by kernel_rfl
@[go_sem] theorem ty_3_21 : blksz Try.prog 3 = some 1 := by kernel_rfl
@[go_sem] theorem ty_4_22 : tsz Try.prog 4 = some 1 := by kernel_rfl
@[go_sem] theorem ty_4_23 : tbytes Try.prog 4 = some 1 := by kernel_rfl
@[go_sem] theorem ty_4_24 : tzero Try.prog 4 = some [.bool false] := by kernel_rfl
@[go_sem] theorem ty_4_25 : tagg Try.prog 4 = some false := by kernel_rfl
@[go_sem] theorem ty_4_26 : tbool Try.prog 4 = true := by kernel_rfl
@[go_sem] theorem ty_4_27 : blksz Try.prog 4 = some 1 := by kernel_rfl
@[go_sem] theorem ty_5_28 : tsz Try.prog 5 = some 1 := by kernel_rfl
@[go_sem] theorem ty_5_29 : tbytes Try.prog 5 = some 1 := by kernel_rfl
@[go_sem] theorem ty_5_30 : tzero Try.prog 5 = some [.int .u8 0] := by kernel_rfl
@[go_sem] theorem ty_5_31 : tagg Try.prog 5 = some false := by kernel_rfl
@[go_sem] theorem ty_5_32 : tint Try.prog 5 = some .u8 := by kernel_rfl
@[go_sem] theorem ty_5_33 : blksz Try.prog 5 = some 1 := by kernel_rfl
@[go_sem] theorem ty_6_34 : tsz Try.prog 6 = some 1 := by kernel_rfl
@[go_sem] theorem ty_6_35 : tbytes Try.prog 6 = some 1 := by kernel_rfl
@[go_sem] theorem ty_6_36 : tzero Try.prog 6 = some [.int .u8 0] := by kernel_rfl
@[go_sem] theorem ty_6_37 : tagg Try.prog 6 = some false := by kernel_rfl
@[go_sem] theorem ty_6_38 : tint Try.prog 6 = some .u8 := by kernel_rfl
@[go_sem] theorem ty_6_39 : blksz Try.prog 6 = some 1 := by kernel_rfl
@[go_sem] theorem ty_7_40 : tsz Try.prog 7 = some 4 := by kernel_rfl
@[go_sem] theorem ty_7_41 : tbytes Try.prog 7 = some 24 := by kernel_rfl
@[go_sem] theorem ty_7_42 : tzero Try.prog 7 = some [.int .i64 0, .int .i64 0, .bool false, .int .u8 0] := by kernel_rfl
@[go_sem] theorem ty_7_43 : tagg Try.prog 7 = some true := by kernel_rfl
@[go_sem] theorem ty_7_44 : tarr Try.prog 7 = none := by kernel_rfl
@[go_sem] theorem ty_7_45 : blksz Try.prog 7 = some 4 := by kernel_rfl
@[go_sem] theorem ty_7_46 : tplaces Try.prog 7 = some [(0, 1), (1, 1), (2, 1), (3, 1)] := by kernel_rfl
@[go_sem] theorem ty_7_47 : structK Try.prog 7 = some [1, 1, 0, 1] := by kernel_rfl
@[go_sem] theorem ty_7_48 : tfield Try.prog 7 0 = some (0, 2) := by kernel_rfl
@[go_sem] theorem ty_7_49 : tfield Try.prog 7 1 = some (1, 3) := by kernel_rfl
@[go_sem] theorem ty_7_50 : tfield Try.prog 7 2 = some (2, 4) := by kernel_rfl
@[go_sem] theorem ty_7_51 : tfield Try.prog 7 3 = some (3, 6) := by kernel_rfl
@[go_sem] theorem ty_8_52 : tsz Try.prog 8 = some 4 := by kernel_rfl
@[go_sem] theorem ty_8_53 : tbytes Try.prog 8 = some 24 := by kernel_rfl
@[go_sem] theorem ty_8_54 : tzero Try.prog 8 = some [.int .i64 0, .int .i64 0, .bool false, .int .u8 0] := by kernel_rfl
@[go_sem] theorem ty_8_55 : tagg Try.prog 8 = some true := by kernel_rfl
@[go_sem] theorem ty_8_56 : tarr Try.prog 8 = none := by kernel_rfl
@[go_sem] theorem ty_8_57 : blksz Try.prog 8 = some 4 := by kernel_rfl
@[go_sem] theorem ty_8_58 : tplaces Try.prog 8 = some [(0, 1), (1, 1), (2, 1), (3, 1)] := by kernel_rfl
@[go_sem] theorem ty_8_59 : structK Try.prog 8 = some [1, 1, 0, 1] := by kernel_rfl
@[go_sem] theorem ty_8_60 : tfield Try.prog 8 0 = some (0, 2) := by kernel_rfl
@[go_sem] theorem ty_8_61 : tfield Try.prog 8 1 = some (1, 3) := by kernel_rfl
@[go_sem] theorem ty_8_62 : tfield Try.prog 8 2 = some (2, 4) := by kernel_rfl
@[go_sem] theorem ty_8_63 : tfield Try.prog 8 3 = some (3, 6) := by kernel_rfl
@[go_sem] theorem ty_9_64 : tsz Try.prog 9 = some 1 := by kernel_rfl
@[go_sem] theorem ty_9_65 : tbytes Try.prog 9 = some 16 := by kernel_rfl
@[go_sem] theorem ty_9_66 : tzero Try.prog 9 = some [.string ByteArray.empty] := by kernel_rfl
@[go_sem] theorem ty_9_67 : tagg Try.prog 9 = some false := by kernel_rfl
@[go_sem] theorem ty_9_68 : tstr Try.prog 9 = true := by kernel_rfl
@[go_sem] theorem ty_9_69 : blksz Try.prog 9 = some 1 := by kernel_rfl
@[go_sem] theorem ty_10_70 : tsz Try.prog 10 = some 1 := by kernel_rfl
@[go_sem] theorem ty_10_71 : tbytes Try.prog 10 = some 16 := by kernel_rfl
@[go_sem] theorem ty_10_72 : tzero Try.prog 10 = some [.string ByteArray.empty] := by kernel_rfl
@[go_sem] theorem ty_10_73 : tagg Try.prog 10 = some false := by kernel_rfl
@[go_sem] theorem ty_10_74 : tstr Try.prog 10 = true := by kernel_rfl
@[go_sem] theorem ty_10_75 : blksz Try.prog 10 = some 1 := by kernel_rfl
@[go_sem] theorem ty_11_76 : tsz Try.prog 11 = some 1 := by kernel_rfl
@[go_sem] theorem ty_11_77 : tbytes Try.prog 11 = some 16 := by kernel_rfl
@[go_sem] theorem ty_11_78 : tzero Try.prog 11 = some [.string ByteArray.empty] := by kernel_rfl
@[go_sem] theorem ty_11_79 : tagg Try.prog 11 = some false := by kernel_rfl
@[go_sem] theorem ty_11_80 : tstr Try.prog 11 = true := by kernel_rfl
@[go_sem] theorem ty_11_81 : blksz Try.prog 11 = some 1 := by kernel_rfl
@[go_sem] theorem ty_12_82 : tsz Try.prog 12 = some 1 := by kernel_rfl
@[go_sem] theorem ty_12_83 : tbytes Try.prog 12 = some 8 := by kernel_rfl
@[go_sem] theorem ty_12_84 : tzero Try.prog 12 = some [.int .u64 0] := by kernel_rfl
@[go_sem] theorem ty_12_85 : tagg Try.prog 12 = some false := by kernel_rfl
@[go_sem] theorem ty_12_86 : tint Try.prog 12 = some .u64 := by kernel_rfl
@[go_sem] theorem ty_12_87 : blksz Try.prog 12 = some 1 := by kernel_rfl
@[go_sem] theorem ty_13_88 : tsz Try.prog 13 = some 2 := by kernel_rfl
@[go_sem] theorem ty_13_89 : tbytes Try.prog 13 = some 24 := by kernel_rfl
@[go_sem] theorem ty_13_90 : tzero Try.prog 13 = some [.string ByteArray.empty, .int .u64 0] := by kernel_rfl
@[go_sem] theorem ty_13_91 : tagg Try.prog 13 = some true := by kernel_rfl
@[go_sem] theorem ty_13_92 : tarr Try.prog 13 = none := by kernel_rfl
@[go_sem] theorem ty_13_93 : blksz Try.prog 13 = some 2 := by kernel_rfl
@[go_sem] theorem ty_13_94 : tplaces Try.prog 13 = some [(0, 1), (1, 1)] := by kernel_rfl
@[go_sem] theorem ty_13_95 : tfield Try.prog 13 0 = some (0, 9) := by kernel_rfl
@[go_sem] theorem ty_13_96 : tfield Try.prog 13 1 = some (1, 12) := by kernel_rfl
@[go_sem] theorem ty_14_97 : tsz Try.prog 14 = some 2 := by kernel_rfl
@[go_sem] theorem ty_14_98 : tbytes Try.prog 14 = some 24 := by kernel_rfl
@[go_sem] theorem ty_14_99 : tzero Try.prog 14 = some [.string ByteArray.empty, .int .u64 0] := by kernel_rfl
@[go_sem] theorem ty_14_100 : tagg Try.prog 14 = some true := by kernel_rfl
@[go_sem] theorem ty_14_101 : tarr Try.prog 14 = none := by kernel_rfl
@[go_sem] theorem ty_14_102 : blksz Try.prog 14 = some 2 := by kernel_rfl
@[go_sem] theorem ty_14_103 : tplaces Try.prog 14 = some [(0, 1), (1, 1)] := by kernel_rfl
@[go_sem] theorem ty_14_104 : tfield Try.prog 14 0 = some (0, 9) := by kernel_rfl
@[go_sem] theorem ty_14_105 : tfield Try.prog 14 1 = some (1, 12) := by kernel_rfl
@[go_sem] theorem ty_15_106 : tsz Try.prog 15 = some 1 := by kernel_rfl
@[go_sem] theorem ty_15_107 : tbytes Try.prog 15 = some 8 := by kernel_rfl
@[go_sem] theorem ty_15_108 : tzero Try.prog 15 = some [.pointer none] := by kernel_rfl
@[go_sem] theorem ty_15_109 : tagg Try.prog 15 = some false := by kernel_rfl
@[go_sem] theorem ty_15_110 : blksz Try.prog 15 = some 1 := by kernel_rfl
@[go_sem] theorem ty_16_111 : tsz Try.prog 16 = some 1 := by kernel_rfl
@[go_sem] theorem ty_16_112 : tbytes Try.prog 16 = some 8 := by kernel_rfl
@[go_sem] theorem ty_16_113 : tzero Try.prog 16 = some [.pointer none] := by kernel_rfl
@[go_sem] theorem ty_16_114 : tagg Try.prog 16 = some false := by kernel_rfl
@[go_sem] theorem ty_16_115 : blksz Try.prog 16 = some 1 := by kernel_rfl
@[go_sem] theorem ty_17_116 : tsz Try.prog 17 = some 1 := by kernel_rfl
@[go_sem] theorem ty_17_117 : tbytes Try.prog 17 = some 8 := by kernel_rfl
@[go_sem] theorem ty_17_118 : tzero Try.prog 17 = some [.pointer none] := by kernel_rfl
@[go_sem] theorem ty_17_119 : tagg Try.prog 17 = some false := by kernel_rfl
@[go_sem] theorem ty_17_120 : blksz Try.prog 17 = some 1 := by kernel_rfl
@[go_sem] theorem ty_18_121 : tsz Try.prog 18 = some 1 := by kernel_rfl
@[go_sem] theorem ty_18_122 : tbytes Try.prog 18 = some 8 := by kernel_rfl
@[go_sem] theorem ty_18_123 : tzero Try.prog 18 = some [.pointer none] := by kernel_rfl
@[go_sem] theorem ty_18_124 : tagg Try.prog 18 = some true := by kernel_rfl
@[go_sem] theorem ty_18_125 : tarr Try.prog 18 = none := by kernel_rfl
@[go_sem] theorem ty_18_126 : blksz Try.prog 18 = some 1 := by kernel_rfl
@[go_sem] theorem ty_18_127 : tplaces Try.prog 18 = some [(0, 1)] := by kernel_rfl
@[go_sem] theorem ty_18_128 : tfield Try.prog 18 0 = some (0, 17) := by kernel_rfl
@[go_sem] theorem ty_19_129 : tsz Try.prog 19 = some 1 := by kernel_rfl
@[go_sem] theorem ty_19_130 : tbytes Try.prog 19 = some 8 := by kernel_rfl
@[go_sem] theorem ty_19_131 : tzero Try.prog 19 = some [.pointer none] := by kernel_rfl
@[go_sem] theorem ty_19_132 : tagg Try.prog 19 = some true := by kernel_rfl
@[go_sem] theorem ty_19_133 : tarr Try.prog 19 = none := by kernel_rfl
@[go_sem] theorem ty_19_134 : blksz Try.prog 19 = some 1 := by kernel_rfl
@[go_sem] theorem ty_19_135 : tplaces Try.prog 19 = some [(0, 1)] := by kernel_rfl
@[go_sem] theorem ty_19_136 : tfield Try.prog 19 0 = some (0, 17) := by kernel_rfl
@[go_sem] theorem ty_20_137 : tsz Try.prog 20 = some 1 := by kernel_rfl
@[go_sem] theorem ty_20_138 : tbytes Try.prog 20 = some 16 := by kernel_rfl
@[go_sem] theorem ty_20_139 : tzero Try.prog 20 = some [.nilIface] := by kernel_rfl
@[go_sem] theorem ty_20_140 : tagg Try.prog 20 = some false := by kernel_rfl
@[go_sem] theorem ty_20_141 : blksz Try.prog 20 = some 1 := by kernel_rfl
@[go_sem] theorem ty_21_142 : tsz Try.prog 21 = some 1 := by kernel_rfl
@[go_sem] theorem ty_21_143 : tbytes Try.prog 21 = some 4 := by kernel_rfl
@[go_sem] theorem ty_21_144 : tzero Try.prog 21 = some [.int .i32 0] := by kernel_rfl
@[go_sem] theorem ty_21_145 : tagg Try.prog 21 = some false := by kernel_rfl
@[go_sem] theorem ty_21_146 : tint Try.prog 21 = some .i32 := by kernel_rfl
@[go_sem] theorem ty_21_147 : blksz Try.prog 21 = some 1 := by kernel_rfl
@[go_sem] theorem ty_22_148 : tsz Try.prog 22 = some 1 := by kernel_rfl
@[go_sem] theorem ty_22_149 : tbytes Try.prog 22 = some 24 := by kernel_rfl
@[go_sem] theorem ty_22_150 : tzero Try.prog 22 = some [.slice none 0 0] := by kernel_rfl
@[go_sem] theorem ty_22_151 : tagg Try.prog 22 = some false := by kernel_rfl
@[go_sem] theorem ty_22_152 : telem Try.prog 22 = some 28 := by kernel_rfl
@[go_sem] theorem ty_22_153 : tstr Try.prog 22 = false := by kernel_rfl
@[go_sem] theorem ty_22_154 : blksz Try.prog 22 = some 1 := by kernel_rfl
@[go_sem] theorem ty_23_155 : tsz Try.prog 23 = some 1 := by kernel_rfl
@[go_sem] theorem ty_23_156 : tbytes Try.prog 23 = some 8 := by kernel_rfl
@[go_sem] theorem ty_23_157 : tzero Try.prog 23 = some [.nilFunc] := by kernel_rfl
@[go_sem] theorem ty_23_158 : tagg Try.prog 23 = some false := by kernel_rfl
@[go_sem] theorem ty_23_159 : blksz Try.prog 23 = some 1 := by kernel_rfl
@[go_sem] theorem ty_24_160 : tsz Try.prog 24 = some 1 := by kernel_rfl
@[go_sem] theorem ty_24_161 : tbytes Try.prog 24 = some 24 := by kernel_rfl
@[go_sem] theorem ty_24_162 : tzero Try.prog 24 = some [.slice none 0 0] := by kernel_rfl
@[go_sem] theorem ty_24_163 : tagg Try.prog 24 = some false := by kernel_rfl
@[go_sem] theorem ty_24_164 : telem Try.prog 24 = some 37 := by kernel_rfl
@[go_sem] theorem ty_24_165 : tstr Try.prog 24 = false := by kernel_rfl
@[go_sem] theorem ty_24_166 : blksz Try.prog 24 = some 1 := by kernel_rfl
@[go_sem] theorem ty_25_167 : tsz Try.prog 25 = some 1 := by kernel_rfl
@[go_sem] theorem ty_25_168 : tbytes Try.prog 25 = some 24 := by kernel_rfl
@[go_sem] theorem ty_25_169 : tzero Try.prog 25 = some [.slice none 0 0] := by kernel_rfl
@[go_sem] theorem ty_25_170 : tagg Try.prog 25 = some false := by kernel_rfl
@[go_sem] theorem ty_25_171 : telem Try.prog 25 = some 37 := by kernel_rfl
@[go_sem] theorem ty_25_172 : tstr Try.prog 25 = false := by kernel_rfl
@[go_sem] theorem ty_25_173 : blksz Try.prog 25 = some 1 := by kernel_rfl
@[go_sem] theorem ty_26_174 : tsz Try.prog 26 = some 1 := by kernel_rfl
@[go_sem] theorem ty_26_175 : tbytes Try.prog 26 = some 8 := by kernel_rfl
@[go_sem] theorem ty_26_176 : tzero Try.prog 26 = some [.nilFunc] := by kernel_rfl
@[go_sem] theorem ty_26_177 : tagg Try.prog 26 = some false := by kernel_rfl
@[go_sem] theorem ty_26_178 : blksz Try.prog 26 = some 1 := by kernel_rfl
@[go_sem] theorem ty_27_179 : tsz Try.prog 27 = some 20 := by kernel_rfl
@[go_sem] theorem ty_27_180 : tbytes Try.prog 27 = some 160 := by kernel_rfl
@[go_sem] theorem ty_27_181 : tzero Try.prog 27 = some [.int .i64 0, .int .i64 0, .int .i64 0, .int .i64 0, .int .i64 0, .int .i64 0, .int .i64 0, .int .i64 0, .int .i64 0, .int .i64 0, .int .i64 0, .int .i64 0, .int .i64 0, .int .i64 0, .int .i64 0, .int .i64 0, .int .i64 0, .int .i64 0, .int .i64 0, .int .i64 0] := by kernel_rfl
@[go_sem] theorem ty_27_182 : tagg Try.prog 27 = some true := by kernel_rfl
@[go_sem] theorem ty_27_183 : tarr Try.prog 27 = some (20, 3) := by kernel_rfl
@[go_sem] theorem ty_27_184 : blksz Try.prog 27 = some 1 := by kernel_rfl
@[go_sem] theorem ty_27_185 : tplaces Try.prog 27 = none := by kernel_rfl
@[go_sem] theorem ty_28_186 : tsz Try.prog 28 = some 1 := by kernel_rfl
@[go_sem] theorem ty_28_187 : tbytes Try.prog 28 = some 2 := by kernel_rfl
@[go_sem] theorem ty_28_188 : tzero Try.prog 28 = some [.int .i16 0] := by kernel_rfl
@[go_sem] theorem ty_28_189 : tagg Try.prog 28 = some false := by kernel_rfl
@[go_sem] theorem ty_28_190 : tint Try.prog 28 = some .i16 := by kernel_rfl
@[go_sem] theorem ty_28_191 : blksz Try.prog 28 = some 1 := by kernel_rfl
@[go_sem] theorem ty_29_192 : tsz Try.prog 29 = some 1 := by kernel_rfl
@[go_sem] theorem ty_29_193 : tbytes Try.prog 29 = some 8 := by kernel_rfl
@[go_sem] theorem ty_29_194 : tzero Try.prog 29 = some [.nilFunc] := by kernel_rfl
@[go_sem] theorem ty_29_195 : tagg Try.prog 29 = some false := by kernel_rfl
@[go_sem] theorem ty_29_196 : blksz Try.prog 29 = some 1 := by kernel_rfl
@[go_sem] theorem ty_30_197 : tsz Try.prog 30 = some 1 := by kernel_rfl
@[go_sem] theorem ty_30_198 : tbytes Try.prog 30 = some 8 := by kernel_rfl
@[go_sem] theorem ty_30_199 : tzero Try.prog 30 = some [.nilFunc] := by kernel_rfl
@[go_sem] theorem ty_30_200 : tagg Try.prog 30 = some false := by kernel_rfl
@[go_sem] theorem ty_30_201 : blksz Try.prog 30 = some 1 := by kernel_rfl
@[go_sem] theorem ty_31_202 : tsz Try.prog 31 = some 1 := by kernel_rfl
@[go_sem] theorem ty_31_203 : tbytes Try.prog 31 = some 24 := by kernel_rfl
@[go_sem] theorem ty_31_204 : tzero Try.prog 31 = some [.slice none 0 0] := by kernel_rfl
@[go_sem] theorem ty_31_205 : tagg Try.prog 31 = some false := by kernel_rfl
@[go_sem] theorem ty_31_206 : telem Try.prog 31 = some 41 := by kernel_rfl
@[go_sem] theorem ty_31_207 : tstr Try.prog 31 = false := by kernel_rfl
@[go_sem] theorem ty_31_208 : blksz Try.prog 31 = some 1 := by kernel_rfl
@[go_sem] theorem ty_32_209 : tsz Try.prog 32 = some 1 := by kernel_rfl
@[go_sem] theorem ty_32_210 : tbytes Try.prog 32 = some 8 := by kernel_rfl
@[go_sem] theorem ty_32_211 : tzero Try.prog 32 = some [.int .i64 0] := by kernel_rfl
@[go_sem] theorem ty_32_212 : tagg Try.prog 32 = some false := by kernel_rfl
@[go_sem] theorem ty_32_213 : tint Try.prog 32 = some .i64 := by kernel_rfl
@[go_sem] theorem ty_32_214 : blksz Try.prog 32 = some 1 := by kernel_rfl
@[go_sem] theorem ty_33_215 : tsz Try.prog 33 = some 1 := by kernel_rfl
@[go_sem] theorem ty_33_216 : tbytes Try.prog 33 = some 0 := by kernel_rfl
@[go_sem] theorem ty_33_217 : tagg Try.prog 33 = some false := by kernel_rfl
@[go_sem] theorem ty_33_218 : blksz Try.prog 33 = some 1 := by kernel_rfl
@[go_sem] theorem ty_34_219 : tsz Try.prog 34 = some 1 := by kernel_rfl
@[go_sem] theorem ty_34_220 : tbytes Try.prog 34 = some 8 := by kernel_rfl
@[go_sem] theorem ty_34_221 : tzero Try.prog 34 = some [.nilFunc] := by kernel_rfl
@[go_sem] theorem ty_34_222 : tagg Try.prog 34 = some false := by kernel_rfl
@[go_sem] theorem ty_34_223 : blksz Try.prog 34 = some 1 := by kernel_rfl
@[go_sem] theorem ty_35_224 : tsz Try.prog 35 = some 1 := by kernel_rfl
@[go_sem] theorem ty_35_225 : tbytes Try.prog 35 = some 16 := by kernel_rfl
@[go_sem] theorem ty_35_226 : tzero Try.prog 35 = some [.string ByteArray.empty] := by kernel_rfl
@[go_sem] theorem ty_35_227 : tagg Try.prog 35 = some false := by kernel_rfl
@[go_sem] theorem ty_35_228 : tstr Try.prog 35 = true := by kernel_rfl
@[go_sem] theorem ty_35_229 : blksz Try.prog 35 = some 1 := by kernel_rfl
@[go_sem] theorem ty_36_230 : tsz Try.prog 36 = some 2 := by kernel_rfl
@[go_sem] theorem ty_36_231 : tbytes Try.prog 36 = some 24 := by kernel_rfl
@[go_sem] theorem ty_36_232 : tzero Try.prog 36 = some [.bool false, .string ByteArray.empty] := by kernel_rfl
@[go_sem] theorem ty_36_233 : tagg Try.prog 36 = some true := by kernel_rfl
@[go_sem] theorem ty_36_234 : tarr Try.prog 36 = none := by kernel_rfl
@[go_sem] theorem ty_36_235 : blksz Try.prog 36 = some 2 := by kernel_rfl
@[go_sem] theorem ty_36_236 : tplaces Try.prog 36 = some [(0, 1), (1, 1)] := by kernel_rfl
@[go_sem] theorem ty_36_237 : structK Try.prog 36 = some [0, 2] := by kernel_rfl
@[go_sem] theorem ty_36_238 : tfield Try.prog 36 0 = some (0, 4) := by kernel_rfl
@[go_sem] theorem ty_36_239 : tfield Try.prog 36 1 = some (1, 35) := by kernel_rfl
@[go_sem] theorem ty_37_240 : tsz Try.prog 37 = some 2 := by kernel_rfl
@[go_sem] theorem ty_37_241 : tbytes Try.prog 37 = some 24 := by kernel_rfl
@[go_sem] theorem ty_37_242 : tzero Try.prog 37 = some [.bool false, .string ByteArray.empty] := by kernel_rfl
@[go_sem] theorem ty_37_243 : tagg Try.prog 37 = some true := by kernel_rfl
@[go_sem] theorem ty_37_244 : tarr Try.prog 37 = none := by kernel_rfl
@[go_sem] theorem ty_37_245 : blksz Try.prog 37 = some 2 := by kernel_rfl
@[go_sem] theorem ty_37_246 : tplaces Try.prog 37 = some [(0, 1), (1, 1)] := by kernel_rfl
@[go_sem] theorem ty_37_247 : structK Try.prog 37 = some [0, 2] := by kernel_rfl
@[go_sem] theorem ty_37_248 : tfield Try.prog 37 0 = some (0, 4) := by kernel_rfl
@[go_sem] theorem ty_37_249 : tfield Try.prog 37 1 = some (1, 35) := by kernel_rfl
@[go_sem] theorem ty_38_250 : tsz Try.prog 38 = some 3 := by kernel_rfl
@[go_sem] theorem ty_38_251 : tbytes Try.prog 38 = some 40 := by kernel_rfl
@[go_sem] theorem ty_38_252 : tzero Try.prog 38 = some [.bool false, .string ByteArray.empty, .string ByteArray.empty] := by kernel_rfl
@[go_sem] theorem ty_38_253 : tagg Try.prog 38 = some true := by kernel_rfl
@[go_sem] theorem ty_38_254 : tarr Try.prog 38 = none := by kernel_rfl
@[go_sem] theorem ty_38_255 : blksz Try.prog 38 = some 3 := by kernel_rfl
@[go_sem] theorem ty_38_256 : tplaces Try.prog 38 = some [(0, 2), (2, 1)] := by kernel_rfl
@[go_sem] theorem ty_38_257 : structK Try.prog 38 = some [0, 2, 2] := by kernel_rfl
@[go_sem] theorem ty_38_258 : tfield Try.prog 38 0 = some (0, 37) := by kernel_rfl
@[go_sem] theorem ty_38_259 : tfield Try.prog 38 1 = some (2, 35) := by kernel_rfl
@[go_sem] theorem ty_39_260 : tsz Try.prog 39 = some 3 := by kernel_rfl
@[go_sem] theorem ty_39_261 : tbytes Try.prog 39 = some 40 := by kernel_rfl
@[go_sem] theorem ty_39_262 : tzero Try.prog 39 = some [.bool false, .string ByteArray.empty, .string ByteArray.empty] := by kernel_rfl
@[go_sem] theorem ty_39_263 : tagg Try.prog 39 = some true := by kernel_rfl
@[go_sem] theorem ty_39_264 : tarr Try.prog 39 = none := by kernel_rfl
@[go_sem] theorem ty_39_265 : blksz Try.prog 39 = some 3 := by kernel_rfl
@[go_sem] theorem ty_39_266 : tplaces Try.prog 39 = some [(0, 2), (2, 1)] := by kernel_rfl
@[go_sem] theorem ty_39_267 : structK Try.prog 39 = some [0, 2, 2] := by kernel_rfl
@[go_sem] theorem ty_39_268 : tfield Try.prog 39 0 = some (0, 37) := by kernel_rfl
@[go_sem] theorem ty_39_269 : tfield Try.prog 39 1 = some (2, 35) := by kernel_rfl
@[go_sem] theorem ty_40_270 : tsz Try.prog 40 = some 4 := by kernel_rfl
@[go_sem] theorem ty_40_271 : tbytes Try.prog 40 = some 48 := by kernel_rfl
@[go_sem] theorem ty_40_272 : tzero Try.prog 40 = some [.bool false, .string ByteArray.empty, .string ByteArray.empty, .int .i64 0] := by kernel_rfl
@[go_sem] theorem ty_40_273 : tagg Try.prog 40 = some true := by kernel_rfl
@[go_sem] theorem ty_40_274 : tarr Try.prog 40 = none := by kernel_rfl
@[go_sem] theorem ty_40_275 : blksz Try.prog 40 = some 4 := by kernel_rfl
@[go_sem] theorem ty_40_276 : tplaces Try.prog 40 = some [(0, 3), (3, 1)] := by kernel_rfl
@[go_sem] theorem ty_40_277 : structK Try.prog 40 = some [0, 2, 2, 1] := by kernel_rfl
@[go_sem] theorem ty_40_278 : tfield Try.prog 40 0 = some (0, 39) := by kernel_rfl
@[go_sem] theorem ty_40_279 : tfield Try.prog 40 1 = some (3, 3) := by kernel_rfl
@[go_sem] theorem ty_41_280 : tsz Try.prog 41 = some 4 := by kernel_rfl
@[go_sem] theorem ty_41_281 : tbytes Try.prog 41 = some 48 := by kernel_rfl
@[go_sem] theorem ty_41_282 : tzero Try.prog 41 = some [.bool false, .string ByteArray.empty, .string ByteArray.empty, .int .i64 0] := by kernel_rfl
@[go_sem] theorem ty_41_283 : tagg Try.prog 41 = some true := by kernel_rfl
@[go_sem] theorem ty_41_284 : tarr Try.prog 41 = none := by kernel_rfl
@[go_sem] theorem ty_41_285 : blksz Try.prog 41 = some 4 := by kernel_rfl
@[go_sem] theorem ty_41_286 : tplaces Try.prog 41 = some [(0, 3), (3, 1)] := by kernel_rfl
@[go_sem] theorem ty_41_287 : structK Try.prog 41 = some [0, 2, 2, 1] := by kernel_rfl
@[go_sem] theorem ty_41_288 : tfield Try.prog 41 0 = some (0, 39) := by kernel_rfl
@[go_sem] theorem ty_41_289 : tfield Try.prog 41 1 = some (3, 3) := by kernel_rfl
@[go_sem] theorem ty_42_290 : tsz Try.prog 42 = some 1 := by kernel_rfl
@[go_sem] theorem ty_42_291 : tbytes Try.prog 42 = some 8 := by kernel_rfl
@[go_sem] theorem ty_42_292 : tzero Try.prog 42 = some [.nilFunc] := by kernel_rfl
@[go_sem] theorem ty_42_293 : tagg Try.prog 42 = some false := by kernel_rfl
@[go_sem] theorem ty_42_294 : blksz Try.prog 42 = some 1 := by kernel_rfl
@[go_sem] theorem ty_43_295 : tsz Try.prog 43 = some 1 := by kernel_rfl
@[go_sem] theorem ty_43_296 : tbytes Try.prog 43 = some 8 := by kernel_rfl
@[go_sem] theorem ty_43_297 : tzero Try.prog 43 = some [.nilFunc] := by kernel_rfl
@[go_sem] theorem ty_43_298 : tagg Try.prog 43 = some false := by kernel_rfl
@[go_sem] theorem ty_43_299 : blksz Try.prog 43 = some 1 := by kernel_rfl
@[go_sem] theorem ty_44_300 : tsz Try.prog 44 = some 1 := by kernel_rfl
@[go_sem] theorem ty_44_301 : tbytes Try.prog 44 = some 8 := by kernel_rfl
@[go_sem] theorem ty_44_302 : tzero Try.prog 44 = some [.nilFunc] := by kernel_rfl
@[go_sem] theorem ty_44_303 : tagg Try.prog 44 = some false := by kernel_rfl
@[go_sem] theorem ty_44_304 : blksz Try.prog 44 = some 1 := by kernel_rfl
@[go_sem] theorem ty_45_305 : tsz Try.prog 45 = some 1 := by kernel_rfl
@[go_sem] theorem ty_45_306 : tbytes Try.prog 45 = some 24 := by kernel_rfl
@[go_sem] theorem ty_45_307 : tzero Try.prog 45 = some [.slice none 0 0] := by kernel_rfl
@[go_sem] theorem ty_45_308 : tagg Try.prog 45 = some false := by kernel_rfl
@[go_sem] theorem ty_45_309 : telem Try.prog 45 = some 49 := by kernel_rfl
@[go_sem] theorem ty_45_310 : tstr Try.prog 45 = false := by kernel_rfl
@[go_sem] theorem ty_45_311 : blksz Try.prog 45 = some 1 := by kernel_rfl
@[go_sem] theorem ty_46_312 : tsz Try.prog 46 = some 1 := by kernel_rfl
@[go_sem] theorem ty_46_313 : tbytes Try.prog 46 = some 0 := by kernel_rfl
@[go_sem] theorem ty_46_314 : tagg Try.prog 46 = some false := by kernel_rfl
@[go_sem] theorem ty_46_315 : blksz Try.prog 46 = some 1 := by kernel_rfl
@[go_sem] theorem ty_47_316 : tsz Try.prog 47 = some 1 := by kernel_rfl
@[go_sem] theorem ty_47_317 : tbytes Try.prog 47 = some 8 := by kernel_rfl
@[go_sem] theorem ty_47_318 : tzero Try.prog 47 = some [.nilFunc] := by kernel_rfl
@[go_sem] theorem ty_47_319 : tagg Try.prog 47 = some false := by kernel_rfl
@[go_sem] theorem ty_47_320 : blksz Try.prog 47 = some 1 := by kernel_rfl
@[go_sem] theorem ty_48_321 : tsz Try.prog 48 = some 2 := by kernel_rfl
@[go_sem] theorem ty_48_322 : tbytes Try.prog 48 = some 16 := by kernel_rfl
@[go_sem] theorem ty_48_323 : tzero Try.prog 48 = some [.int .i64 0, .int .i64 0] := by kernel_rfl
@[go_sem] theorem ty_48_324 : tagg Try.prog 48 = some true := by kernel_rfl
@[go_sem] theorem ty_48_325 : tarr Try.prog 48 = none := by kernel_rfl
@[go_sem] theorem ty_48_326 : blksz Try.prog 48 = some 2 := by kernel_rfl
@[go_sem] theorem ty_48_327 : tplaces Try.prog 48 = some [(0, 1), (1, 1)] := by kernel_rfl
@[go_sem] theorem ty_48_328 : structK Try.prog 48 = some [1, 1] := by kernel_rfl
@[go_sem] theorem ty_48_329 : tfield Try.prog 48 0 = some (0, 3) := by kernel_rfl
@[go_sem] theorem ty_48_330 : tfield Try.prog 48 1 = some (1, 3) := by kernel_rfl
@[go_sem] theorem ty_49_331 : tsz Try.prog 49 = some 2 := by kernel_rfl
@[go_sem] theorem ty_49_332 : tbytes Try.prog 49 = some 16 := by kernel_rfl
@[go_sem] theorem ty_49_333 : tzero Try.prog 49 = some [.int .i64 0, .int .i64 0] := by kernel_rfl
@[go_sem] theorem ty_49_334 : tagg Try.prog 49 = some true := by kernel_rfl
@[go_sem] theorem ty_49_335 : tarr Try.prog 49 = none := by kernel_rfl
@[go_sem] theorem ty_49_336 : blksz Try.prog 49 = some 2 := by kernel_rfl
@[go_sem] theorem ty_49_337 : tplaces Try.prog 49 = some [(0, 1), (1, 1)] := by kernel_rfl
@[go_sem] theorem ty_49_338 : structK Try.prog 49 = some [1, 1] := by kernel_rfl
@[go_sem] theorem ty_49_339 : tfield Try.prog 49 0 = some (0, 3) := by kernel_rfl
@[go_sem] theorem ty_49_340 : tfield Try.prog 49 1 = some (1, 3) := by kernel_rfl
@[go_sem] theorem ty_50_341 : tsz Try.prog 50 = some 1 := by kernel_rfl
@[go_sem] theorem ty_50_342 : tbytes Try.prog 50 = some 8 := by kernel_rfl
@[go_sem] theorem ty_50_343 : tzero Try.prog 50 = some [.nilFunc] := by kernel_rfl
@[go_sem] theorem ty_50_344 : tagg Try.prog 50 = some false := by kernel_rfl
@[go_sem] theorem ty_50_345 : blksz Try.prog 50 = some 1 := by kernel_rfl
@[go_sem] theorem ty_51_346 : tsz Try.prog 51 = some 1 := by kernel_rfl
@[go_sem] theorem ty_51_347 : tbytes Try.prog 51 = some 8 := by kernel_rfl
@[go_sem] theorem ty_51_348 : tzero Try.prog 51 = some [.nilFunc] := by kernel_rfl
@[go_sem] theorem ty_51_349 : tagg Try.prog 51 = some false := by kernel_rfl
@[go_sem] theorem ty_51_350 : blksz Try.prog 51 = some 1 := by kernel_rfl
@[go_sem] theorem ty_52_351 : tsz Try.prog 52 = some 1 := by kernel_rfl
@[go_sem] theorem ty_52_352 : tbytes Try.prog 52 = some 8 := by kernel_rfl
@[go_sem] theorem ty_52_353 : tzero Try.prog 52 = some [.nilFunc] := by kernel_rfl
@[go_sem] theorem ty_52_354 : tagg Try.prog 52 = some false := by kernel_rfl
@[go_sem] theorem ty_52_355 : blksz Try.prog 52 = some 1 := by kernel_rfl
@[go_sem] theorem ty_53_356 : tsz Try.prog 53 = some 1 := by kernel_rfl
@[go_sem] theorem ty_53_357 : tbytes Try.prog 53 = some 8 := by kernel_rfl
@[go_sem] theorem ty_53_358 : tzero Try.prog 53 = some [.nilFunc] := by kernel_rfl
@[go_sem] theorem ty_53_359 : tagg Try.prog 53 = some false := by kernel_rfl
@[go_sem] theorem ty_53_360 : blksz Try.prog 53 = some 1 := by kernel_rfl
@[go_sem] theorem ty_54_361 : tsz Try.prog 54 = some 1 := by kernel_rfl
@[go_sem] theorem ty_54_362 : tbytes Try.prog 54 = some 0 := by kernel_rfl
@[go_sem] theorem ty_54_363 : tagg Try.prog 54 = some false := by kernel_rfl
@[go_sem] theorem ty_54_364 : blksz Try.prog 54 = some 1 := by kernel_rfl
@[go_sem] theorem ty_55_365 : tsz Try.prog 55 = some 1 := by kernel_rfl
@[go_sem] theorem ty_55_366 : tbytes Try.prog 55 = some 8 := by kernel_rfl
@[go_sem] theorem ty_55_367 : tzero Try.prog 55 = some [.nilFunc] := by kernel_rfl
@[go_sem] theorem ty_55_368 : tagg Try.prog 55 = some false := by kernel_rfl
@[go_sem] theorem ty_55_369 : blksz Try.prog 55 = some 1 := by kernel_rfl
@[go_sem] theorem ty_56_370 : tsz Try.prog 56 = some 1 := by kernel_rfl
@[go_sem] theorem ty_56_371 : tbytes Try.prog 56 = some 24 := by kernel_rfl
@[go_sem] theorem ty_56_372 : tzero Try.prog 56 = some [.slice none 0 0] := by kernel_rfl
@[go_sem] theorem ty_56_373 : tagg Try.prog 56 = some false := by kernel_rfl
@[go_sem] theorem ty_56_374 : telem Try.prog 56 = some 3 := by kernel_rfl
@[go_sem] theorem ty_56_375 : tstr Try.prog 56 = false := by kernel_rfl
@[go_sem] theorem ty_56_376 : blksz Try.prog 56 = some 1 := by kernel_rfl
@[go_sem] theorem ty_57_377 : tsz Try.prog 57 = some 1 := by kernel_rfl
@[go_sem] theorem ty_57_378 : tbytes Try.prog 57 = some 0 := by kernel_rfl
@[go_sem] theorem ty_57_379 : tagg Try.prog 57 = some false := by kernel_rfl
@[go_sem] theorem ty_57_380 : blksz Try.prog 57 = some 1 := by kernel_rfl
@[go_sem] theorem ty_58_381 : tsz Try.prog 58 = some 1 := by kernel_rfl
@[go_sem] theorem ty_58_382 : tbytes Try.prog 58 = some 8 := by kernel_rfl
@[go_sem] theorem ty_58_383 : tzero Try.prog 58 = some [.nilFunc] := by kernel_rfl
@[go_sem] theorem ty_58_384 : tagg Try.prog 58 = some false := by kernel_rfl
@[go_sem] theorem ty_58_385 : blksz Try.prog 58 = some 1 := by kernel_rfl
@[go_sem] theorem ty_59_386 : tsz Try.prog 59 = some 1 := by kernel_rfl
@[go_sem] theorem ty_59_387 : tbytes Try.prog 59 = some 8 := by kernel_rfl
@[go_sem] theorem ty_59_388 : tzero Try.prog 59 = some [.nilFunc] := by kernel_rfl
@[go_sem] theorem ty_59_389 : tagg Try.prog 59 = some false := by kernel_rfl
@[go_sem] theorem ty_59_390 : blksz Try.prog 59 = some 1 := by kernel_rfl
@[go_sem] theorem ty_60_391 : tsz Try.prog 60 = some 1 := by kernel_rfl
@[go_sem] theorem ty_60_392 : tbytes Try.prog 60 = some 8 := by kernel_rfl
@[go_sem] theorem ty_60_393 : tzero Try.prog 60 = some [.nilFunc] := by kernel_rfl
@[go_sem] theorem ty_60_394 : tagg Try.prog 60 = some false := by kernel_rfl
@[go_sem] theorem ty_60_395 : blksz Try.prog 60 = some 1 := by kernel_rfl
@[go_sem] theorem ty_61_396 : tsz Try.prog 61 = some 1 := by kernel_rfl
@[go_sem] theorem ty_61_397 : tbytes Try.prog 61 = some 8 := by kernel_rfl
@[go_sem] theorem ty_61_398 : tzero Try.prog 61 = some [.nilFunc] := by kernel_rfl
@[go_sem] theorem ty_61_399 : tagg Try.prog 61 = some false := by kernel_rfl
@[go_sem] theorem ty_61_400 : blksz Try.prog 61 = some 1 := by kernel_rfl
@[go_sem] theorem ty_62_401 : tsz Try.prog 62 = some 1 := by kernel_rfl
@[go_sem] theorem ty_62_402 : tbytes Try.prog 62 = some 8 := by kernel_rfl
@[go_sem] theorem ty_62_403 : tzero Try.prog 62 = some [.nilFunc] := by kernel_rfl
@[go_sem] theorem ty_62_404 : tagg Try.prog 62 = some false := by kernel_rfl
@[go_sem] theorem ty_62_405 : blksz Try.prog 62 = some 1 := by kernel_rfl
@[go_sem] theorem ty_63_406 : tsz Try.prog 63 = some 1 := by kernel_rfl
@[go_sem] theorem ty_63_407 : tbytes Try.prog 63 = some 8 := by kernel_rfl
@[go_sem] theorem ty_63_408 : tzero Try.prog 63 = some [.nilFunc] := by kernel_rfl
@[go_sem] theorem ty_63_409 : tagg Try.prog 63 = some false := by kernel_rfl
@[go_sem] theorem ty_63_410 : blksz Try.prog 63 = some 1 := by kernel_rfl
@[go_sem] theorem ty_64_411 : tsz Try.prog 64 = some 1 := by kernel_rfl
@[go_sem] theorem ty_64_412 : tbytes Try.prog 64 = some 8 := by kernel_rfl
@[go_sem] theorem ty_64_413 : tzero Try.prog 64 = some [.nilFunc] := by kernel_rfl
@[go_sem] theorem ty_64_414 : tagg Try.prog 64 = some false := by kernel_rfl
@[go_sem] theorem ty_64_415 : blksz Try.prog 64 = some 1 := by kernel_rfl
@[go_sem] theorem ty_65_416 : tsz Try.prog 65 = some 1 := by kernel_rfl
@[go_sem] theorem ty_65_417 : tbytes Try.prog 65 = some 8 := by kernel_rfl
@[go_sem] theorem ty_65_418 : tzero Try.prog 65 = some [.nilFunc] := by kernel_rfl
@[go_sem] theorem ty_65_419 : tagg Try.prog 65 = some false := by kernel_rfl
@[go_sem] theorem ty_65_420 : blksz Try.prog 65 = some 1 := by kernel_rfl
@[go_sem] theorem ty_66_421 : tsz Try.prog 66 = some 1 := by kernel_rfl
@[go_sem] theorem ty_66_422 : tbytes Try.prog 66 = some 8 := by kernel_rfl
@[go_sem] theorem ty_66_423 : tzero Try.prog 66 = some [.nilFunc] := by kernel_rfl
@[go_sem] theorem ty_66_424 : tagg Try.prog 66 = some false := by kernel_rfl
@[go_sem] theorem ty_66_425 : blksz Try.prog 66 = some 1 := by kernel_rfl
@[go_sem] theorem ty_67_426 : tsz Try.prog 67 = some 1 := by kernel_rfl
@[go_sem] theorem ty_67_427 : tbytes Try.prog 67 = some 8 := by kernel_rfl
@[go_sem] theorem ty_67_428 : tzero Try.prog 67 = some [.nilFunc] := by kernel_rfl
@[go_sem] theorem ty_67_429 : tagg Try.prog 67 = some false := by kernel_rfl
@[go_sem] theorem ty_67_430 : blksz Try.prog 67 = some 1 := by kernel_rfl
@[go_sem] theorem ty_68_431 : tsz Try.prog 68 = some 1 := by kernel_rfl
@[go_sem] theorem ty_68_432 : tbytes Try.prog 68 = some 8 := by kernel_rfl
@[go_sem] theorem ty_68_433 : tzero Try.prog 68 = some [.nilFunc] := by kernel_rfl
@[go_sem] theorem ty_68_434 : tagg Try.prog 68 = some false := by kernel_rfl
@[go_sem] theorem ty_68_435 : blksz Try.prog 68 = some 1 := by kernel_rfl
@[go_sem] theorem ty_69_436 : tsz Try.prog 69 = some 1 := by kernel_rfl
@[go_sem] theorem ty_69_437 : tbytes Try.prog 69 = some 8 := by kernel_rfl
@[go_sem] theorem ty_69_438 : tzero Try.prog 69 = some [.nilFunc] := by kernel_rfl
@[go_sem] theorem ty_69_439 : tagg Try.prog 69 = some false := by kernel_rfl
@[go_sem] theorem ty_69_440 : blksz Try.prog 69 = some 1 := by kernel_rfl
@[go_sem] theorem ty_70_441 : tsz Try.prog 70 = some 1 := by kernel_rfl
@[go_sem] theorem ty_70_442 : tbytes Try.prog 70 = some 8 := by kernel_rfl
@[go_sem] theorem ty_70_443 : tzero Try.prog 70 = some [.nilFunc] := by kernel_rfl
@[go_sem] theorem ty_70_444 : tagg Try.prog 70 = some false := by kernel_rfl
@[go_sem] theorem ty_70_445 : blksz Try.prog 70 = some 1 := by kernel_rfl
@[go_sem] theorem ty_71_446 : tsz Try.prog 71 = some 1 := by kernel_rfl
@[go_sem] theorem ty_71_447 : tbytes Try.prog 71 = some 8 := by kernel_rfl
@[go_sem] theorem ty_71_448 : tzero Try.prog 71 = some [.nilFunc] := by kernel_rfl
@[go_sem] theorem ty_71_449 : tagg Try.prog 71 = some false := by kernel_rfl
@[go_sem] theorem ty_71_450 : blksz Try.prog 71 = some 1 := by kernel_rfl
@[go_sem] theorem ty_72_451 : tsz Try.prog 72 = some 1 := by kernel_rfl
@[go_sem] theorem ty_72_452 : tbytes Try.prog 72 = some 8 := by kernel_rfl
@[go_sem] theorem ty_72_453 : tzero Try.prog 72 = some [.nilFunc] := by kernel_rfl
@[go_sem] theorem ty_72_454 : tagg Try.prog 72 = some false := by kernel_rfl
@[go_sem] theorem ty_72_455 : blksz Try.prog 72 = some 1 := by kernel_rfl
@[go_sem] theorem ty_73_456 : tsz Try.prog 73 = some 1 := by kernel_rfl
@[go_sem] theorem ty_73_457 : tbytes Try.prog 73 = some 8 := by kernel_rfl
@[go_sem] theorem ty_73_458 : tzero Try.prog 73 = some [.nilFunc] := by kernel_rfl
@[go_sem] theorem ty_73_459 : tagg Try.prog 73 = some false := by kernel_rfl
@[go_sem] theorem ty_73_460 : blksz Try.prog 73 = some 1 := by kernel_rfl
@[go_sem] theorem ty_74_461 : tsz Try.prog 74 = some 65 := by kernel_rfl
@[go_sem] theorem ty_74_462 : tbytes Try.prog 74 = some 65 := by kernel_rfl
@[go_sem] theorem ty_74_463 : tzero Try.prog 74 = some [.bool false, .bool false, .bool false, .bool false, .bool false, .bool false, .bool false, .bool false, .bool false, .bool false, .bool false, .bool false, .bool false, .bool false, .bool false, .bool false, .bool false, .bool false, .bool false, .bool false, .bool false, .bool false, .bool false, .bool false, .bool false, .bool false, .bool false, .bool false, .bool false, .bool false, .bool false, .bool false, .bool false, .bool false, .bool false, .bool false, .bool false, .bool false, .bool false, .bool false, .bool false, .bool false, .bool false, .bool false, .bool false, .bool false, .bool false, .bool false, .bool false, .bool false, .bool false, .bool false, .bool false, .bool false, .bool false, .bool false, .bool false, .bool false, .bool false, .bool false, .bool false, .bool false, .bool false, .bool false, .bool false] := by kernel_rfl
@[go_sem] theorem ty_74_464 : tagg Try.prog 74 = some true := by kernel_rfl
@[go_sem] theorem ty_74_465 : tarr Try.prog 74 = some (65, 4) := by kernel_rfl
@[go_sem] theorem ty_74_466 : blksz Try.prog 74 = some 1 := by kernel_rfl
@[go_sem] theorem ty_74_467 : tplaces Try.prog 74 = none := by kernel_rfl
@[go_sem] theorem ty_75_468 : tsz Try.prog 75 = some 1 := by kernel_rfl
@[go_sem] theorem ty_75_469 : tbytes Try.prog 75 = some 8 := by kernel_rfl
@[go_sem] theorem ty_75_470 : tzero Try.prog 75 = some [.nilFunc] := by kernel_rfl
@[go_sem] theorem ty_75_471 : tagg Try.prog 75 = some false := by kernel_rfl
@[go_sem] theorem ty_75_472 : blksz Try.prog 75 = some 1 := by kernel_rfl
@[go_sem] theorem ty_76_473 : tsz Try.prog 76 = some 1 := by kernel_rfl
@[go_sem] theorem ty_76_474 : tbytes Try.prog 76 = some 8 := by kernel_rfl
@[go_sem] theorem ty_76_475 : tzero Try.prog 76 = some [.int .u64 0] := by kernel_rfl
@[go_sem] theorem ty_76_476 : tagg Try.prog 76 = some false := by kernel_rfl
@[go_sem] theorem ty_76_477 : tint Try.prog 76 = some .u64 := by kernel_rfl
@[go_sem] theorem ty_76_478 : blksz Try.prog 76 = some 1 := by kernel_rfl
@[go_sem] theorem ty_77_479 : tsz Try.prog 77 = some 1 := by kernel_rfl
@[go_sem] theorem ty_77_480 : tbytes Try.prog 77 = some 8 := by kernel_rfl
@[go_sem] theorem ty_77_481 : tzero Try.prog 77 = some [.nilFunc] := by kernel_rfl
@[go_sem] theorem ty_77_482 : tagg Try.prog 77 = some false := by kernel_rfl
@[go_sem] theorem ty_77_483 : blksz Try.prog 77 = some 1 := by kernel_rfl
@[go_sem] theorem ty_78_484 : tsz Try.prog 78 = some 1 := by kernel_rfl
@[go_sem] theorem ty_78_485 : tbytes Try.prog 78 = some 8 := by kernel_rfl
@[go_sem] theorem ty_78_486 : tzero Try.prog 78 = some [.nilFunc] := by kernel_rfl
@[go_sem] theorem ty_78_487 : tagg Try.prog 78 = some false := by kernel_rfl
@[go_sem] theorem ty_78_488 : blksz Try.prog 78 = some 1 := by kernel_rfl
@[go_sem] theorem ty_79_489 : tsz Try.prog 79 = some 1 := by kernel_rfl
@[go_sem] theorem ty_79_490 : tbytes Try.prog 79 = some 8 := by kernel_rfl
@[go_sem] theorem ty_79_491 : tzero Try.prog 79 = some [.nilFunc] := by kernel_rfl
@[go_sem] theorem ty_79_492 : tagg Try.prog 79 = some false := by kernel_rfl
@[go_sem] theorem ty_79_493 : blksz Try.prog 79 = some 1 := by kernel_rfl
@[go_sem] theorem ty_80_494 : tsz Try.prog 80 = some 1 := by kernel_rfl
@[go_sem] theorem ty_80_495 : tbytes Try.prog 80 = some 8 := by kernel_rfl
@[go_sem] theorem ty_80_496 : tzero Try.prog 80 = some [.nilFunc] := by kernel_rfl
@[go_sem] theorem ty_80_497 : tagg Try.prog 80 = some false := by kernel_rfl
@[go_sem] theorem ty_80_498 : blksz Try.prog 80 = some 1 := by kernel_rfl
@[go_sem] theorem ty_81_499 : tsz Try.prog 81 = some 1 := by kernel_rfl
@[go_sem] theorem ty_81_500 : tbytes Try.prog 81 = some 8 := by kernel_rfl
@[go_sem] theorem ty_81_501 : tzero Try.prog 81 = some [.nilFunc] := by kernel_rfl
@[go_sem] theorem ty_81_502 : tagg Try.prog 81 = some false := by kernel_rfl
@[go_sem] theorem ty_81_503 : blksz Try.prog 81 = some 1 := by kernel_rfl
@[go_sem] theorem ty_82_504 : tsz Try.prog 82 = some 1 := by kernel_rfl
@[go_sem] theorem ty_82_505 : tbytes Try.prog 82 = some 8 := by kernel_rfl
@[go_sem] theorem ty_82_506 : tzero Try.prog 82 = some [.nilFunc] := by kernel_rfl
@[go_sem] theorem ty_82_507 : tagg Try.prog 82 = some false := by kernel_rfl
@[go_sem] theorem ty_82_508 : blksz Try.prog 82 = some 1 := by kernel_rfl
@[go_sem] theorem ty_83_509 : tsz Try.prog 83 = some 1 := by kernel_rfl
@[go_sem] theorem ty_83_510 : tbytes Try.prog 83 = some 8 := by kernel_rfl
@[go_sem] theorem ty_83_511 : tzero Try.prog 83 = some [.nilFunc] := by kernel_rfl
@[go_sem] theorem ty_83_512 : tagg Try.prog 83 = some false := by kernel_rfl
@[go_sem] theorem ty_83_513 : blksz Try.prog 83 = some 1 := by kernel_rfl
@[go_sem] theorem ty_84_514 : tsz Try.prog 84 = some 1 := by kernel_rfl
@[go_sem] theorem ty_84_515 : tbytes Try.prog 84 = some 8 := by kernel_rfl
@[go_sem] theorem ty_84_516 : tzero Try.prog 84 = some [.nilFunc] := by kernel_rfl
@[go_sem] theorem ty_84_517 : tagg Try.prog 84 = some false := by kernel_rfl
@[go_sem] theorem ty_84_518 : blksz Try.prog 84 = some 1 := by kernel_rfl
@[go_sem] theorem ty_85_519 : tsz Try.prog 85 = some 1 := by kernel_rfl
@[go_sem] theorem ty_85_520 : tbytes Try.prog 85 = some 8 := by kernel_rfl
@[go_sem] theorem ty_85_521 : tzero Try.prog 85 = some [.nilFunc] := by kernel_rfl
@[go_sem] theorem ty_85_522 : tagg Try.prog 85 = some false := by kernel_rfl
@[go_sem] theorem ty_85_523 : blksz Try.prog 85 = some 1 := by kernel_rfl
@[go_sem] theorem ty_86_524 : tsz Try.prog 86 = some 1 := by kernel_rfl
@[go_sem] theorem ty_86_525 : tbytes Try.prog 86 = some 0 := by kernel_rfl
@[go_sem] theorem ty_86_526 : tagg Try.prog 86 = some false := by kernel_rfl
@[go_sem] theorem ty_86_527 : blksz Try.prog 86 = some 1 := by kernel_rfl
@[go_sem] theorem ty_87_528 : tsz Try.prog 87 = some 1 := by kernel_rfl
@[go_sem] theorem ty_87_529 : tbytes Try.prog 87 = some 8 := by kernel_rfl
@[go_sem] theorem ty_87_530 : tzero Try.prog 87 = some [.nilFunc] := by kernel_rfl
@[go_sem] theorem ty_87_531 : tagg Try.prog 87 = some false := by kernel_rfl
@[go_sem] theorem ty_87_532 : blksz Try.prog 87 = some 1 := by kernel_rfl
@[go_sem] theorem ty_88_533 : tsz Try.prog 88 = some 1 := by kernel_rfl
@[go_sem] theorem ty_88_534 : tbytes Try.prog 88 = some 8 := by kernel_rfl
@[go_sem] theorem ty_88_535 : tzero Try.prog 88 = some [.nilFunc] := by kernel_rfl
@[go_sem] theorem ty_88_536 : tagg Try.prog 88 = some false := by kernel_rfl
@[go_sem] theorem ty_88_537 : blksz Try.prog 88 = some 1 := by kernel_rfl
@[go_sem] theorem ty_89_538 : tsz Try.prog 89 = some 1 := by kernel_rfl
@[go_sem] theorem ty_89_539 : tbytes Try.prog 89 = some 0 := by kernel_rfl
@[go_sem] theorem ty_89_540 : tagg Try.prog 89 = some false := by kernel_rfl
@[go_sem] theorem ty_89_541 : blksz Try.prog 89 = some 1 := by kernel_rfl
@[go_sem] theorem ty_90_542 : tsz Try.prog 90 = some 1 := by kernel_rfl
@[go_sem] theorem ty_90_543 : tbytes Try.prog 90 = some 8 := by kernel_rfl
@[go_sem] theorem ty_90_544 : tzero Try.prog 90 = some [.nilFunc] := by kernel_rfl
@[go_sem] theorem ty_90_545 : tagg Try.prog 90 = some false := by kernel_rfl
@[go_sem] theorem ty_90_546 : blksz Try.prog 90 = some 1 := by kernel_rfl
@[go_sem] theorem ty_91_547 : tsz Try.prog 91 = some 1 := by kernel_rfl
@[go_sem] theorem ty_91_548 : tbytes Try.prog 91 = some 8 := by kernel_rfl
@[go_sem] theorem ty_91_549 : tzero Try.prog 91 = some [.nilFunc] := by kernel_rfl
@[go_sem] theorem ty_91_550 : tagg Try.prog 91 = some false := by kernel_rfl
@[go_sem] theorem ty_91_551 : blksz Try.prog 91 = some 1 := by kernel_rfl
@[go_sem] theorem ty_92_552 : tsz Try.prog 92 = some 1 := by kernel_rfl
@[go_sem] theorem ty_92_553 : tbytes Try.prog 92 = some 8 := by kernel_rfl
@[go_sem] theorem ty_92_554 : tzero Try.prog 92 = some [.nilFunc] := by kernel_rfl
@[go_sem] theorem ty_92_555 : tagg Try.prog 92 = some false := by kernel_rfl
@[go_sem] theorem ty_92_556 : blksz Try.prog 92 = some 1 := by kernel_rfl
@[go_sem] theorem ty_93_557 : tsz Try.prog 93 = some 1 := by kernel_rfl
@[go_sem] theorem ty_93_558 : tbytes Try.prog 93 = some 8 := by kernel_rfl
@[go_sem] theorem ty_93_559 : tzero Try.prog 93 = some [.int .u64 0] := by kernel_rfl
@[go_sem] theorem ty_93_560 : tagg Try.prog 93 = some false := by kernel_rfl
@[go_sem] theorem ty_93_561 : tint Try.prog 93 = some .u64 := by kernel_rfl
@[go_sem] theorem ty_93_562 : blksz Try.prog 93 = some 1 := by kernel_rfl
@[go_sem] theorem ty_94_563 : tsz Try.prog 94 = some 1 := by kernel_rfl
@[go_sem] theorem ty_94_564 : tbytes Try.prog 94 = some 24 := by kernel_rfl
@[go_sem] theorem ty_94_565 : tzero Try.prog 94 = some [.slice none 0 0] := by kernel_rfl
@[go_sem] theorem ty_94_566 : tagg Try.prog 94 = some false := by kernel_rfl
@[go_sem] theorem ty_94_567 : telem Try.prog 94 = some 76 := by kernel_rfl
@[go_sem] theorem ty_94_568 : tstr Try.prog 94 = false := by kernel_rfl
@[go_sem] theorem ty_94_569 : blksz Try.prog 94 = some 1 := by kernel_rfl
@[go_sem] theorem ty_95_570 : tsz Try.prog 95 = some 1 := by kernel_rfl
@[go_sem] theorem ty_95_571 : tbytes Try.prog 95 = some 8 := by kernel_rfl
@[go_sem] theorem ty_95_572 : tzero Try.prog 95 = some [.nilFunc] := by kernel_rfl
@[go_sem] theorem ty_95_573 : tagg Try.prog 95 = some false := by kernel_rfl
@[go_sem] theorem ty_95_574 : blksz Try.prog 95 = some 1 := by kernel_rfl
@[go_sem] theorem ty_96_575 : tsz Try.prog 96 = some 1 := by kernel_rfl
@[go_sem] theorem ty_96_576 : tbytes Try.prog 96 = some 8 := by kernel_rfl
@[go_sem] theorem ty_96_577 : tzero Try.prog 96 = some [.nilFunc] := by kernel_rfl
@[go_sem] theorem ty_96_578 : tagg Try.prog 96 = some false := by kernel_rfl
@[go_sem] theorem ty_96_579 : blksz Try.prog 96 = some 1 := by kernel_rfl
@[go_sem] theorem ty_97_580 : tsz Try.prog 97 = some 1 := by kernel_rfl
@[go_sem] theorem ty_97_581 : tbytes Try.prog 97 = some 24 := by kernel_rfl
@[go_sem] theorem ty_97_582 : tzero Try.prog 97 = some [.slice none 0 0] := by kernel_rfl
@[go_sem] theorem ty_97_583 : tagg Try.prog 97 = some false := by kernel_rfl
@[go_sem] theorem ty_97_584 : telem Try.prog 97 = some 3 := by kernel_rfl
@[go_sem] theorem ty_97_585 : tstr Try.prog 97 = false := by kernel_rfl
@[go_sem] theorem ty_97_586 : blksz Try.prog 97 = some 1 := by kernel_rfl
@[go_sem] theorem ty_98_587 : tsz Try.prog 98 = some 1 := by kernel_rfl
@[go_sem] theorem ty_98_588 : tbytes Try.prog 98 = some 8 := by kernel_rfl
@[go_sem] theorem ty_98_589 : tzero Try.prog 98 = some [.nilFunc] := by kernel_rfl
@[go_sem] theorem ty_98_590 : tagg Try.prog 98 = some false := by kernel_rfl
@[go_sem] theorem ty_98_591 : blksz Try.prog 98 = some 1 := by kernel_rfl
@[go_sem] theorem ty_99_592 : tsz Try.prog 99 = some 1 := by kernel_rfl
@[go_sem] theorem ty_99_593 : tbytes Try.prog 99 = some 8 := by kernel_rfl
@[go_sem] theorem ty_99_594 : tzero Try.prog 99 = some [.nilFunc] := by kernel_rfl
@[go_sem] theorem ty_99_595 : tagg Try.prog 99 = some false := by kernel_rfl
@[go_sem] theorem ty_99_596 : blksz Try.prog 99 = some 1 := by kernel_rfl
@[go_sem] theorem ty_100_597 : tsz Try.prog 100 = some 1 := by kernel_rfl
@[go_sem] theorem ty_100_598 : tbytes Try.prog 100 = some 0 := by kernel_rfl
@[go_sem] theorem ty_100_599 : tagg Try.prog 100 = some false := by kernel_rfl
@[go_sem] theorem ty_100_600 : blksz Try.prog 100 = some 1 := by kernel_rfl
@[go_sem] theorem ty_101_601 : tsz Try.prog 101 = some 1 := by kernel_rfl
@[go_sem] theorem ty_101_602 : tbytes Try.prog 101 = some 8 := by kernel_rfl
@[go_sem] theorem ty_101_603 : tzero Try.prog 101 = some [.nilFunc] := by kernel_rfl
@[go_sem] theorem ty_101_604 : tagg Try.prog 101 = some false := by kernel_rfl
@[go_sem] theorem ty_101_605 : blksz Try.prog 101 = some 1 := by kernel_rfl
@[go_sem] theorem ty_102_606 : tsz Try.prog 102 = some 1 := by kernel_rfl
@[go_sem] theorem ty_102_607 : tbytes Try.prog 102 = some 8 := by kernel_rfl
@[go_sem] theorem ty_102_608 : tzero Try.prog 102 = some [.nilFunc] := by kernel_rfl
@[go_sem] theorem ty_102_609 : tagg Try.prog 102 = some false := by kernel_rfl
@[go_sem] theorem ty_102_610 : blksz Try.prog 102 = some 1 := by kernel_rfl
@[go_sem] theorem ty_103_611 : tsz Try.prog 103 = some 1 := by kernel_rfl
@[go_sem] theorem ty_103_612 : tbytes Try.prog 103 = some 0 := by kernel_rfl
@[go_sem] theorem ty_103_613 : tagg Try.prog 103 = some false := by kernel_rfl
@[go_sem] theorem ty_103_614 : blksz Try.prog 103 = some 1 := by kernel_rfl
@[go_sem] theorem ty_104_615 : tsz Try.prog 104 = some 1 := by kernel_rfl
@[go_sem] theorem ty_104_616 : tbytes Try.prog 104 = some 8 := by kernel_rfl
@[go_sem] theorem ty_104_617 : tzero Try.prog 104 = some [.nilFunc] := by kernel_rfl
@[go_sem] theorem ty_104_618 : tagg Try.prog 104 = some false := by kernel_rfl
@[go_sem] theorem ty_104_619 : blksz Try.prog 104 = some 1 := by kernel_rfl
@[go_sem] theorem ty_105_620 : tsz Try.prog 105 = some 1 := by kernel_rfl
@[go_sem] theorem ty_105_621 : tbytes Try.prog 105 = some 8 := by kernel_rfl
@[go_sem] theorem ty_105_622 : tzero Try.prog 105 = some [.nilFunc] := by kernel_rfl
@[go_sem] theorem ty_105_623 : tagg Try.prog 105 = some false := by kernel_rfl
@[go_sem] theorem ty_105_624 : blksz Try.prog 105 = some 1 := by kernel_rfl
@[go_sem] theorem ty_106_625 : tsz Try.prog 106 = some 1 := by kernel_rfl
@[go_sem] theorem ty_106_626 : tbytes Try.prog 106 = some 24 := by kernel_rfl
@[go_sem] theorem ty_106_627 : tzero Try.prog 106 = some [.slice none 0 0] := by kernel_rfl
@[go_sem] theorem ty_106_628 : tagg Try.prog 106 = some false := by kernel_rfl
@[go_sem] theorem ty_106_629 : telem Try.prog 106 = some 5 := by kernel_rfl
@[go_sem] theorem ty_106_630 : tstr Try.prog 106 = false := by kernel_rfl
@[go_sem] theorem ty_106_631 : blksz Try.prog 106 = some 1 := by kernel_rfl
@[go_sem] theorem ty_107_632 : tsz Try.prog 107 = some 1 := by kernel_rfl
@[go_sem] theorem ty_107_633 : tbytes Try.prog 107 = some 8 := by kernel_rfl
@[go_sem] theorem ty_107_634 : tzero Try.prog 107 = some [.nilFunc] := by kernel_rfl
@[go_sem] theorem ty_107_635 : tagg Try.prog 107 = some false := by kernel_rfl
@[go_sem] theorem ty_107_636 : blksz Try.prog 107 = some 1 := by kernel_rfl
@[go_sem] theorem ty_108_637 : tsz Try.prog 108 = some 1 := by kernel_rfl
@[go_sem] theorem ty_108_638 : tbytes Try.prog 108 = some 8 := by kernel_rfl
@[go_sem] theorem ty_108_639 : tzero Try.prog 108 = some [.nilFunc] := by kernel_rfl
@[go_sem] theorem ty_108_640 : tagg Try.prog 108 = some false := by kernel_rfl
@[go_sem] theorem ty_108_641 : blksz Try.prog 108 = some 1 := by kernel_rfl
@[go_sem] theorem ty_109_642 : tsz Try.prog 109 = some 1 := by kernel_rfl
@[go_sem] theorem ty_109_643 : tbytes Try.prog 109 = some 8 := by kernel_rfl
@[go_sem] theorem ty_109_644 : tzero Try.prog 109 = some [.nilFunc] := by kernel_rfl
@[go_sem] theorem ty_109_645 : tagg Try.prog 109 = some false := by kernel_rfl
@[go_sem] theorem ty_109_646 : blksz Try.prog 109 = some 1 := by kernel_rfl
@[go_sem] theorem ty_110_647 : tsz Try.prog 110 = some 1 := by kernel_rfl
@[go_sem] theorem ty_110_648 : tbytes Try.prog 110 = some 8 := by kernel_rfl
@[go_sem] theorem ty_110_649 : tzero Try.prog 110 = some [.nilFunc] := by kernel_rfl
@[go_sem] theorem ty_110_650 : tagg Try.prog 110 = some false := by kernel_rfl
@[go_sem] theorem ty_110_651 : blksz Try.prog 110 = some 1 := by kernel_rfl
@[go_sem] theorem ty_111_652 : tsz Try.prog 111 = some 1 := by kernel_rfl
@[go_sem] theorem ty_111_653 : tbytes Try.prog 111 = some 8 := by kernel_rfl
@[go_sem] theorem ty_111_654 : tzero Try.prog 111 = some [.nilFunc] := by kernel_rfl
@[go_sem] theorem ty_111_655 : tagg Try.prog 111 = some false := by kernel_rfl
@[go_sem] theorem ty_111_656 : blksz Try.prog 111 = some 1 := by kernel_rfl
@[go_sem] theorem ty_112_657 : tsz Try.prog 112 = some 1 := by kernel_rfl
@[go_sem] theorem ty_112_658 : tbytes Try.prog 112 = some 8 := by kernel_rfl
@[go_sem] theorem ty_112_659 : tzero Try.prog 112 = some [.nilFunc] := by kernel_rfl
@[go_sem] theorem ty_112_660 : tagg Try.prog 112 = some false := by kernel_rfl
@[go_sem] theorem ty_112_661 : blksz Try.prog 112 = some 1 := by kernel_rfl
@[go_sem] theorem ty_113_662 : tsz Try.prog 113 = some 1 := by kernel_rfl
@[go_sem] theorem ty_113_663 : tbytes Try.prog 113 = some 8 := by kernel_rfl
@[go_sem] theorem ty_113_664 : tzero Try.prog 113 = some [.nilFunc] := by kernel_rfl
@[go_sem] theorem ty_113_665 : tagg Try.prog 113 = some false := by kernel_rfl
@[go_sem] theorem ty_113_666 : blksz Try.prog 113 = some 1 := by kernel_rfl
@[go_sem] theorem ty_114_667 : tsz Try.prog 114 = some 1 := by kernel_rfl
@[go_sem] theorem ty_114_668 : tbytes Try.prog 114 = some 0 := by kernel_rfl
@[go_sem] theorem ty_114_669 : tagg Try.prog 114 = some false := by kernel_rfl
@[go_sem] theorem ty_114_670 : blksz Try.prog 114 = some 1 := by kernel_rfl
@[go_sem] theorem ty_115_671 : tsz Try.prog 115 = some 1 := by kernel_rfl
@[go_sem] theorem ty_115_672 : tbytes Try.prog 115 = some 8 := by kernel_rfl
@[go_sem] theorem ty_115_673 : tzero Try.prog 115 = some [.nilFunc] := by kernel_rfl
@[go_sem] theorem ty_115_674 : tagg Try.prog 115 = some false := by kernel_rfl
@[go_sem] theorem ty_115_675 : blksz Try.prog 115 = some 1 := by kernel_rfl
@[go_sem] theorem ty_116_676 : tsz Try.prog 116 = some 1 := by kernel_rfl
@[go_sem] theorem ty_116_677 : tbytes Try.prog 116 = some 0 := by kernel_rfl
@[go_sem] theorem ty_116_678 : tagg Try.prog 116 = some false := by kernel_rfl
@[go_sem] theorem ty_116_679 : blksz Try.prog 116 = some 1 := by kernel_rfl
@[go_sem] theorem ty_117_680 : tsz Try.prog 117 = some 1 := by kernel_rfl
@[go_sem] theorem ty_117_681 : tbytes Try.prog 117 = some 8 := by kernel_rfl
@[go_sem] theorem ty_117_682 : tzero Try.prog 117 = some [.nilFunc] := by kernel_rfl
@[go_sem] theorem ty_117_683 : tagg Try.prog 117 = some false := by kernel_rfl
@[go_sem] theorem ty_117_684 : blksz Try.prog 117 = some 1 := by kernel_rfl
@[go_sem] theorem ty_118_685 : tsz Try.prog 118 = some 1 := by kernel_rfl
@[go_sem] theorem ty_118_686 : tbytes Try.prog 118 = some 8 := by kernel_rfl
@[go_sem] theorem ty_118_687 : tzero Try.prog 118 = some [.nilFunc] := by kernel_rfl
@[go_sem] theorem ty_118_688 : tagg Try.prog 118 = some false := by kernel_rfl
@[go_sem] theorem ty_118_689 : blksz Try.prog 118 = some 1 := by kernel_rfl
@[go_sem] theorem ty_119_690 : tsz Try.prog 119 = some 1 := by kernel_rfl
@[go_sem] theorem ty_119_691 : tbytes Try.prog 119 = some 8 := by kernel_rfl
@[go_sem] theorem ty_119_692 : tzero Try.prog 119 = some [.nilFunc] := by kernel_rfl
@[go_sem] theorem ty_119_693 : tagg Try.prog 119 = some false := by kernel_rfl
@[go_sem] theorem ty_119_694 : blksz Try.prog 119 = some 1 := by kernel_rfl
@[go_sem] theorem ty_120_695 : tsz Try.prog 120 = some 1 := by kernel_rfl
@[go_sem] theorem ty_120_696 : tbytes Try.prog 120 = some 8 := by kernel_rfl
@[go_sem] theorem ty_120_697 : tzero Try.prog 120 = some [.nilFunc] := by kernel_rfl
@[go_sem] theorem ty_120_698 : tagg Try.prog 120 = some false := by kernel_rfl
@[go_sem] theorem ty_120_699 : blksz Try.prog 120 = some 1 := by kernel_rfl
@[go_sem] theorem ty_121_700 : tsz Try.prog 121 = some 1 := by kernel_rfl
@[go_sem] theorem ty_121_701 : tbytes Try.prog 121 = some 8 := by kernel_rfl
@[go_sem] theorem ty_121_702 : tzero Try.prog 121 = some [.nilFunc] := by kernel_rfl
@[go_sem] theorem ty_121_703 : tagg Try.prog 121 = some false := by kernel_rfl
@[go_sem] theorem ty_121_704 : blksz Try.prog 121 = some 1 := by kernel_rfl
@[go_sem] theorem ty_122_705 : tsz Try.prog 122 = some 1 := by kernel_rfl
@[go_sem] theorem ty_122_706 : tbytes Try.prog 122 = some 24 := by kernel_rfl
@[go_sem] theorem ty_122_707 : tzero Try.prog 122 = some [.slice none 0 0] := by kernel_rfl
@[go_sem] theorem ty_122_708 : tagg Try.prog 122 = some false := by kernel_rfl
@[go_sem] theorem ty_122_709 : telem Try.prog 122 = some 125 := by kernel_rfl
@[go_sem] theorem ty_122_710 : tstr Try.prog 122 = false := by kernel_rfl
@[go_sem] theorem ty_122_711 : blksz Try.prog 122 = some 1 := by kernel_rfl
@[go_sem] theorem ty_123_712 : tsz Try.prog 123 = some 1 := by kernel_rfl
@[go_sem] theorem ty_123_713 : tbytes Try.prog 123 = some 8 := by kernel_rfl
@[go_sem] theorem ty_123_714 : tzero Try.prog 123 = some [.nilFunc] := by kernel_rfl
@[go_sem] theorem ty_123_715 : tagg Try.prog 123 = some false := by kernel_rfl
@[go_sem] theorem ty_123_716 : blksz Try.prog 123 = some 1 := by kernel_rfl
@[go_sem] theorem ty_124_717 : tsz Try.prog 124 = some 2 := by kernel_rfl
@[go_sem] theorem ty_124_718 : tbytes Try.prog 124 = some 16 := by kernel_rfl
@[go_sem] theorem ty_124_719 : tzero Try.prog 124 = some [.int .i64 0, .int .i64 0] := by kernel_rfl
@[go_sem] theorem ty_124_720 : tagg Try.prog 124 = some true := by kernel_rfl
@[go_sem] theorem ty_124_721 : tarr Try.prog 124 = none := by kernel_rfl
@[go_sem] theorem ty_124_722 : blksz Try.prog 124 = some 2 := by kernel_rfl
@[go_sem] theorem ty_124_723 : tplaces Try.prog 124 = some [(0, 1), (1, 1)] := by kernel_rfl
@[go_sem] theorem ty_124_724 : structK Try.prog 124 = some [1, 1] := by kernel_rfl
@[go_sem] theorem ty_124_725 : tfield Try.prog 124 0 = some (0, 3) := by kernel_rfl
@[go_sem] theorem ty_124_726 : tfield Try.prog 124 1 = some (1, 3) := by kernel_rfl
@[go_sem] theorem ty_125_727 : tsz Try.prog 125 = some 2 := by kernel_rfl
@[go_sem] theorem ty_125_728 : tbytes Try.prog 125 = some 16 := by kernel_rfl
@[go_sem] theorem ty_125_729 : tzero Try.prog 125 = some [.int .i64 0, .int .i64 0] := by kernel_rfl
@[go_sem] theorem ty_125_730 : tagg Try.prog 125 = some true := by kernel_rfl
@[go_sem] theorem ty_125_731 : tarr Try.prog 125 = none := by kernel_rfl
@[go_sem] theorem ty_125_732 : blksz Try.prog 125 = some 2 := by kernel_rfl
@[go_sem] theorem ty_125_733 : tplaces Try.prog 125 = some [(0, 1), (1, 1)] := by kernel_rfl
@[go_sem] theorem ty_125_734 : structK Try.prog 125 = some [1, 1] := by kernel_rfl
@[go_sem] theorem ty_125_735 : tfield Try.prog 125 0 = some (0, 3) := by kernel_rfl
@[go_sem] theorem ty_125_736 : tfield Try.prog 125 1 = some (1, 3) := by kernel_rfl
@[go_sem] theorem ty_126_737 : tsz Try.prog 126 = some 1 := by kernel_rfl
@[go_sem] theorem ty_126_738 : tbytes Try.prog 126 = some 8 := by kernel_rfl
@[go_sem] theorem ty_126_739 : tzero Try.prog 126 = some [.nilFunc] := by kernel_rfl
@[go_sem] theorem ty_126_740 : tagg Try.prog 126 = some false := by kernel_rfl
@[go_sem] theorem ty_126_741 : blksz Try.prog 126 = some 1 := by kernel_rfl
@[go_sem] theorem ty_127_742 : tsz Try.prog 127 = some 1 := by kernel_rfl
@[go_sem] theorem ty_127_743 : tbytes Try.prog 127 = some 8 := by kernel_rfl
@[go_sem] theorem ty_127_744 : tzero Try.prog 127 = some [.nilFunc] := by kernel_rfl
@[go_sem] theorem ty_127_745 : tagg Try.prog 127 = some false := by kernel_rfl
@[go_sem] theorem ty_127_746 : blksz Try.prog 127 = some 1 := by kernel_rfl
@[go_sem] theorem ty_128_747 : tsz Try.prog 128 = some 1 := by kernel_rfl
@[go_sem] theorem ty_128_748 : tbytes Try.prog 128 = some 8 := by kernel_rfl
@[go_sem] theorem ty_128_749 : tzero Try.prog 128 = some [.nilFunc] := by kernel_rfl
@[go_sem] theorem ty_128_750 : tagg Try.prog 128 = some false := by kernel_rfl
@[go_sem] theorem ty_128_751 : blksz Try.prog 128 = some 1 := by kernel_rfl
@[go_sem] theorem ty_129_752 : tsz Try.prog 129 = some 1 := by kernel_rfl
@[go_sem] theorem ty_129_753 : tbytes Try.prog 129 = some 8 := by kernel_rfl
@[go_sem] theorem ty_129_754 : tzero Try.prog 129 = some [.nilFunc] := by kernel_rfl
@[go_sem] theorem ty_129_755 : tagg Try.prog 129 = some false := by kernel_rfl
@[go_sem] theorem ty_129_756 : blksz Try.prog 129 = some 1 := by kernel_rfl
@[go_sem] theorem ty_130_757 : tsz Try.prog 130 = some 1 := by kernel_rfl
@[go_sem] theorem ty_130_758 : tbytes Try.prog 130 = some 8 := by kernel_rfl
@[go_sem] theorem ty_130_759 : tzero Try.prog 130 = some [.nilFunc] := by kernel_rfl
@[go_sem] theorem ty_130_760 : tagg Try.prog 130 = some false := by kernel_rfl
@[go_sem] theorem ty_130_761 : blksz Try.prog 130 = some 1 := by kernel_rfl
@[go_sem] theorem ty_131_762 : tsz Try.prog 131 = some 1 := by kernel_rfl
@[go_sem] theorem ty_131_763 : tbytes Try.prog 131 = some 8 := by kernel_rfl
@[go_sem] theorem ty_131_764 : tzero Try.prog 131 = some [.nilFunc] := by kernel_rfl
@[go_sem] theorem ty_131_765 : tagg Try.prog 131 = some false := by kernel_rfl
@[go_sem] theorem ty_131_766 : blksz Try.prog 131 = some 1 := by kernel_rfl
@[go_sem] theorem ty_132_767 : tsz Try.prog 132 = some 1 := by kernel_rfl
@[go_sem] theorem ty_132_768 : tbytes Try.prog 132 = some 16 := by kernel_rfl
@[go_sem] theorem ty_132_769 : tzero Try.prog 132 = some [.nilIface] := by kernel_rfl
@[go_sem] theorem ty_132_770 : tagg Try.prog 132 = some false := by kernel_rfl
@[go_sem] theorem ty_132_771 : blksz Try.prog 132 = some 1 := by kernel_rfl
@[go_sem] theorem ty_133_772 : tsz Try.prog 133 = some 1 := by kernel_rfl
@[go_sem] theorem ty_133_773 : tbytes Try.prog 133 = some 16 := by kernel_rfl
@[go_sem] theorem ty_133_774 : tzero Try.prog 133 = some [.nilIface] := by kernel_rfl
@[go_sem] theorem ty_133_775 : tagg Try.prog 133 = some false := by kernel_rfl
@[go_sem] theorem ty_133_776 : blksz Try.prog 133 = some 1 := by kernel_rfl
@[go_sem] theorem ty_134_777 : tsz Try.prog 134 = some 1 := by kernel_rfl
@[go_sem] theorem ty_134_778 : tbytes Try.prog 134 = some 8 := by kernel_rfl
@[go_sem] theorem ty_134_779 : tzero Try.prog 134 = some [.pointer none] := by kernel_rfl
@[go_sem] theorem ty_134_780 : tagg Try.prog 134 = some false := by kernel_rfl
@[go_sem] theorem ty_134_781 : blksz Try.prog 134 = some 1 := by kernel_rfl
@[go_sem] theorem ty_135_782 : tsz Try.prog 135 = some 1 := by kernel_rfl
@[go_sem] theorem ty_135_783 : tbytes Try.prog 135 = some 8 := by kernel_rfl
@[go_sem] theorem ty_135_784 : tzero Try.prog 135 = some [.nilFunc] := by kernel_rfl
@[go_sem] theorem ty_135_785 : tagg Try.prog 135 = some false := by kernel_rfl
@[go_sem] theorem ty_135_786 : blksz Try.prog 135 = some 1 := by kernel_rfl
@[go_sem] theorem ty_136_787 : tsz Try.prog 136 = some 4 := by kernel_rfl
@[go_sem] theorem ty_136_788 : tbytes Try.prog 136 = some 40 := by kernel_rfl
@[go_sem] theorem ty_136_789 : tzero Try.prog 136 = some [.pointer none, .pointer none, .pointer none, .string ByteArray.empty] := by kernel_rfl
@[go_sem] theorem ty_136_790 : tagg Try.prog 136 = some true := by kernel_rfl
@[go_sem] theorem ty_136_791 : tarr Try.prog 136 = none := by kernel_rfl
@[go_sem] theorem ty_136_792 : blksz Try.prog 136 = some 4 := by kernel_rfl
@[go_sem] theorem ty_136_793 : tplaces Try.prog 136 = some [(0, 1), (1, 1), (2, 1), (3, 1)] := by kernel_rfl
@[go_sem] theorem ty_136_794 : tfield Try.prog 136 0 = some (0, 17) := by kernel_rfl
@[go_sem] theorem ty_136_795 : tfield Try.prog 136 1 = some (1, 17) := by kernel_rfl
@[go_sem] theorem ty_136_796 : tfield Try.prog 136 2 = some (2, 17) := by kernel_rfl
@[go_sem] theorem ty_136_797 : tfield Try.prog 136 3 = some (3, 9) := by kernel_rfl
@[go_sem] theorem ty_137_798 : tsz Try.prog 137 = some 4 := by kernel_rfl
@[go_sem] theorem ty_137_799 : tbytes Try.prog 137 = some 40 := by kernel_rfl
@[go_sem] theorem ty_137_800 : tzero Try.prog 137 = some [.pointer none, .pointer none, .pointer none, .string ByteArray.empty] := by kernel_rfl
@[go_sem] theorem ty_137_801 : tagg Try.prog 137 = some true := by kernel_rfl
@[go_sem] theorem ty_137_802 : tarr Try.prog 137 = none := by kernel_rfl
@[go_sem] theorem ty_137_803 : blksz Try.prog 137 = some 4 := by kernel_rfl
@[go_sem] theorem ty_137_804 : tplaces Try.prog 137 = some [(0, 1), (1, 1), (2, 1), (3, 1)] := by kernel_rfl
@[go_sem] theorem ty_137_805 : tfield Try.prog 137 0 = some (0, 17) := by kernel_rfl
@[go_sem] theorem ty_137_806 : tfield Try.prog 137 1 = some (1, 17) := by kernel_rfl
@[go_sem] theorem ty_137_807 : tfield Try.prog 137 2 = some (2, 17) := by kernel_rfl
@[go_sem] theorem ty_137_808 : tfield Try.prog 137 3 = some (3, 9) := by kernel_rfl
@[go_sem] theorem ty_138_809 : tsz Try.prog 138 = some 0 := by kernel_rfl
@[go_sem] theorem ty_138_810 : tbytes Try.prog 138 = some 0 := by kernel_rfl
@[go_sem] theorem ty_138_811 : tzero Try.prog 138 = some [] := by kernel_rfl
@[go_sem] theorem ty_138_812 : tagg Try.prog 138 = some true := by kernel_rfl
@[go_sem] theorem ty_138_813 : tarr Try.prog 138 = some (0, 16) := by kernel_rfl
@[go_sem] theorem ty_138_814 : blksz Try.prog 138 = some 1 := by kernel_rfl
@[go_sem] theorem ty_138_815 : tplaces Try.prog 138 = none := by kernel_rfl
@[go_sem] theorem ty_139_816 : tsz Try.prog 139 = some 0 := by kernel_rfl
@[go_sem] theorem ty_139_817 : tbytes Try.prog 139 = some 0 := by kernel_rfl
@[go_sem] theorem ty_139_818 : tzero Try.prog 139 = some [] := by kernel_rfl
@[go_sem] theorem ty_139_819 : tagg Try.prog 139 = some true := by kernel_rfl
@[go_sem] theorem ty_139_820 : tarr Try.prog 139 = none := by kernel_rfl
@[go_sem] theorem ty_139_821 : blksz Try.prog 139 = some 0 := by kernel_rfl
@[go_sem] theorem ty_139_822 : tplaces Try.prog 139 = some [(0, 0)] := by kernel_rfl
@[go_sem] theorem ty_139_823 : tfield Try.prog 139 0 = some (0, 138) := by kernel_rfl
@[go_sem] theorem ty_140_824 : tsz Try.prog 140 = some 0 := by kernel_rfl
@[go_sem] theorem ty_140_825 : tbytes Try.prog 140 = some 0 := by kernel_rfl
@[go_sem] theorem ty_140_826 : tzero Try.prog 140 = some [] := by kernel_rfl
@[go_sem] theorem ty_140_827 : tagg Try.prog 140 = some true := by kernel_rfl
@[go_sem] theorem ty_140_828 : tarr Try.prog 140 = none := by kernel_rfl
@[go_sem] theorem ty_140_829 : blksz Try.prog 140 = some 0 := by kernel_rfl
@[go_sem] theorem ty_140_830 : tplaces Try.prog 140 = some [(0, 0)] := by kernel_rfl
@[go_sem] theorem ty_140_831 : tfield Try.prog 140 0 = some (0, 138) := by kernel_rfl
@[go_sem] theorem ty_141_832 : tsz Try.prog 141 = some 1 := by kernel_rfl
@[go_sem] theorem ty_141_833 : tbytes Try.prog 141 = some 8 := by kernel_rfl
@[go_sem] theorem ty_141_834 : tzero Try.prog 141 = some [.nilFunc] := by kernel_rfl
@[go_sem] theorem ty_141_835 : tagg Try.prog 141 = some false := by kernel_rfl
@[go_sem] theorem ty_141_836 : blksz Try.prog 141 = some 1 := by kernel_rfl
@[go_sem] theorem ty_142_837 : tsz Try.prog 142 = some 1 := by kernel_rfl
@[go_sem] theorem ty_142_838 : tbytes Try.prog 142 = some 4 := by kernel_rfl
@[go_sem] theorem ty_142_839 : tzero Try.prog 142 = some [.int .u32 0] := by kernel_rfl
@[go_sem] theorem ty_142_840 : tagg Try.prog 142 = some false := by kernel_rfl
@[go_sem] theorem ty_142_841 : tint Try.prog 142 = some .u32 := by kernel_rfl
@[go_sem] theorem ty_142_842 : blksz Try.prog 142 = some 1 := by kernel_rfl
@[go_sem] theorem ty_143_843 : tsz Try.prog 143 = some 1 := by kernel_rfl
@[go_sem] theorem ty_143_844 : tbytes Try.prog 143 = some 1 := by kernel_rfl
@[go_sem] theorem ty_143_845 : tzero Try.prog 143 = some [.int .u8 0] := by kernel_rfl
@[go_sem] theorem ty_143_846 : tagg Try.prog 143 = some false := by kernel_rfl
@[go_sem] theorem ty_143_847 : tint Try.prog 143 = some .u8 := by kernel_rfl
@[go_sem] theorem ty_143_848 : blksz Try.prog 143 = some 1 := by kernel_rfl
@[go_sem] theorem ty_144_849 : tsz Try.prog 144 = some 1 := by kernel_rfl
@[go_sem] theorem ty_144_850 : tbytes Try.prog 144 = some 1 := by kernel_rfl
@[go_sem] theorem ty_144_851 : tzero Try.prog 144 = some [.int .u8 0] := by kernel_rfl
@[go_sem] theorem ty_144_852 : tagg Try.prog 144 = some false := by kernel_rfl
@[go_sem] theorem ty_144_853 : tint Try.prog 144 = some .u8 := by kernel_rfl
@[go_sem] theorem ty_144_854 : blksz Try.prog 144 = some 1 := by kernel_rfl
@[go_sem] theorem ty_145_855 : tsz Try.prog 145 = some 1 := by kernel_rfl
@[go_sem] theorem ty_145_856 : tbytes Try.prog 145 = some 8 := by kernel_rfl
@[go_sem] theorem ty_145_857 : tzero Try.prog 145 = some [.nilFunc] := by kernel_rfl
@[go_sem] theorem ty_145_858 : tagg Try.prog 145 = some false := by kernel_rfl
@[go_sem] theorem ty_145_859 : blksz Try.prog 145 = some 1 := by kernel_rfl
@[go_sem] theorem ty_146_860 : tsz Try.prog 146 = some 1 := by kernel_rfl
@[go_sem] theorem ty_146_861 : tbytes Try.prog 146 = some 8 := by kernel_rfl
@[go_sem] theorem ty_146_862 : tzero Try.prog 146 = some [.pointer none] := by kernel_rfl
@[go_sem] theorem ty_146_863 : tagg Try.prog 146 = some false := by kernel_rfl
@[go_sem] theorem ty_146_864 : blksz Try.prog 146 = some 1 := by kernel_rfl
@[go_sem] theorem ty_147_865 : tsz Try.prog 147 = some 1 := by kernel_rfl
@[go_sem] theorem ty_147_866 : tbytes Try.prog 147 = some 4 := by kernel_rfl
@[go_sem] theorem ty_147_867 : tzero Try.prog 147 = some [.int .i32 0] := by kernel_rfl
@[go_sem] theorem ty_147_868 : tagg Try.prog 147 = some false := by kernel_rfl
@[go_sem] theorem ty_147_869 : tint Try.prog 147 = some .i32 := by kernel_rfl
@[go_sem] theorem ty_147_870 : blksz Try.prog 147 = some 1 := by kernel_rfl
@[go_sem] theorem ty_148_871 : tsz Try.prog 148 = some 1 := by kernel_rfl
@[go_sem] theorem ty_148_872 : tbytes Try.prog 148 = some 4 := by kernel_rfl
@[go_sem] theorem ty_148_873 : tzero Try.prog 148 = some [.int .i32 0] := by kernel_rfl
@[go_sem] theorem ty_148_874 : tagg Try.prog 148 = some false := by kernel_rfl
@[go_sem] theorem ty_148_875 : tint Try.prog 148 = some .i32 := by kernel_rfl
@[go_sem] theorem ty_148_876 : blksz Try.prog 148 = some 1 := by kernel_rfl
@[go_sem] theorem ty_149_877 : tsz Try.prog 149 = some 11 := by kernel_rfl
@[go_sem] theorem ty_149_878 : tbytes Try.prog 149 = some 48 := by kernel_rfl
@[go_sem] theorem ty_149_879 : tzero Try.prog 149 = some [.int .u64 0, .int .u64 0, .int .u32 0, .int .u8 0, .int .u8 0, .int .u8 0, .int .u8 0, .nilFunc, .pointer none, .int .i32 0, .int .i32 0] := by kernel_rfl
@[go_sem] theorem ty_149_880 : tagg Try.prog 149 = some true := by kernel_rfl
@[go_sem] theorem ty_149_881 : tarr Try.prog 149 = none := by kernel_rfl
@[go_sem] theorem ty_149_882 : blksz Try.prog 149 = some 11 := by kernel_rfl
@[go_sem] theorem ty_149_883 : tplaces Try.prog 149 = some [(0, 1), (1, 1), (2, 1), (3, 1), (4, 1), (5, 1), (6, 1), (7, 1), (8, 1), (9, 1), (10, 1)] := by kernel_rfl
@[go_sem] theorem ty_149_884 : tfield Try.prog 149 0 = some (0, 12) := by kernel_rfl
@[go_sem] theorem ty_149_885 : tfield Try.prog 149 1 = some (1, 12) := by kernel_rfl
@[go_sem] theorem ty_149_886 : tfield Try.prog 149 2 = some (2, 142) := by kernel_rfl
@[go_sem] theorem ty_149_887 : tfield Try.prog 149 3 = some (3, 143) := by kernel_rfl
@[go_sem] theorem ty_149_888 : tfield Try.prog 149 4 = some (4, 5) := by kernel_rfl
@[go_sem] theorem ty_149_889 : tfield Try.prog 149 5 = some (5, 5) := by kernel_rfl
@[go_sem] theorem ty_149_890 : tfield Try.prog 149 6 = some (6, 144) := by kernel_rfl
@[go_sem] theorem ty_149_891 : tfield Try.prog 149 7 = some (7, 145) := by kernel_rfl
@[go_sem] theorem ty_149_892 : tfield Try.prog 149 8 = some (8, 146) := by kernel_rfl
@[go_sem] theorem ty_149_893 : tfield Try.prog 149 9 = some (9, 147) := by kernel_rfl
@[go_sem] theorem ty_149_894 : tfield Try.prog 149 10 = some (10, 148) := by kernel_rfl
@[go_sem] theorem ty_150_895 : tsz Try.prog 150 = some 11 := by kernel_rfl
@[go_sem] theorem ty_150_896 : tbytes Try.prog 150 = some 48 := by kernel_rfl
@[go_sem] theorem ty_150_897 : tzero Try.prog 150 = some [.int .u64 0, .int .u64 0, .int .u32 0, .int .u8 0, .int .u8 0, .int .u8 0, .int .u8 0, .nilFunc, .pointer none, .int .i32 0, .int .i32 0] := by kernel_rfl
@[go_sem] theorem ty_150_898 : tagg Try.prog 150 = some true := by kernel_rfl
@[go_sem] theorem ty_150_899 : tarr Try.prog 150 = none := by kernel_rfl
@[go_sem] theorem ty_150_900 : blksz Try.prog 150 = some 11 := by kernel_rfl
@[go_sem] theorem ty_150_901 : tplaces Try.prog 150 = some [(0, 1), (1, 1), (2, 1), (3, 1), (4, 1), (5, 1), (6, 1), (7, 1), (8, 1), (9, 1), (10, 1)] := by kernel_rfl
@[go_sem] theorem ty_150_902 : tfield Try.prog 150 0 = some (0, 12) := by kernel_rfl
@[go_sem] theorem ty_150_903 : tfield Try.prog 150 1 = some (1, 12) := by kernel_rfl
@[go_sem] theorem ty_150_904 : tfield Try.prog 150 2 = some (2, 142) := by kernel_rfl
@[go_sem] theorem ty_150_905 : tfield Try.prog 150 3 = some (3, 143) := by kernel_rfl
@[go_sem] theorem ty_150_906 : tfield Try.prog 150 4 = some (4, 5) := by kernel_rfl
@[go_sem] theorem ty_150_907 : tfield Try.prog 150 5 = some (5, 5) := by kernel_rfl
@[go_sem] theorem ty_150_908 : tfield Try.prog 150 6 = some (6, 144) := by kernel_rfl
@[go_sem] theorem ty_150_909 : tfield Try.prog 150 7 = some (7, 145) := by kernel_rfl
@[go_sem] theorem ty_150_910 : tfield Try.prog 150 8 = some (8, 146) := by kernel_rfl
@[go_sem] theorem ty_150_911 : tfield Try.prog 150 9 = some (9, 147) := by kernel_rfl
@[go_sem] theorem ty_150_912 : tfield Try.prog 150 10 = some (10, 148) := by kernel_rfl
@[go_sem] theorem ty_151_913 : tsz Try.prog 151 = some 1 := by kernel_rfl
@[go_sem] theorem ty_151_914 : tbytes Try.prog 151 = some 16 := by kernel_rfl
@[go_sem] theorem ty_151_915 : tzero Try.prog 151 = some [.string ByteArray.empty] := by kernel_rfl
@[go_sem] theorem ty_151_916 : tagg Try.prog 151 = some true := by kernel_rfl
@[go_sem] theorem ty_151_917 : tarr Try.prog 151 = none := by kernel_rfl
@[go_sem] theorem ty_151_918 : blksz Try.prog 151 = some 1 := by kernel_rfl
@[go_sem] theorem ty_151_919 : tplaces Try.prog 151 = some [(0, 1)] := by kernel_rfl
@[go_sem] theorem ty_151_920 : structK Try.prog 151 = some [2] := by kernel_rfl
@[go_sem] theorem ty_151_921 : tfield Try.prog 151 0 = some (0, 9) := by kernel_rfl
@[go_sem] theorem ty_152_922 : tsz Try.prog 152 = some 1 := by kernel_rfl
@[go_sem] theorem ty_152_923 : tbytes Try.prog 152 = some 16 := by kernel_rfl
@[go_sem] theorem ty_152_924 : tzero Try.prog 152 = some [.string ByteArray.empty] := by kernel_rfl
@[go_sem] theorem ty_152_925 : tagg Try.prog 152 = some true := by kernel_rfl
@[go_sem] theorem ty_152_926 : tarr Try.prog 152 = none := by kernel_rfl
@[go_sem] theorem ty_152_927 : blksz Try.prog 152 = some 1 := by kernel_rfl
@[go_sem] theorem ty_152_928 : tplaces Try.prog 152 = some [(0, 1)] := by kernel_rfl
@[go_sem] theorem ty_152_929 : structK Try.prog 152 = some [2] := by kernel_rfl
@[go_sem] theorem ty_152_930 : tfield Try.prog 152 0 = some (0, 9) := by kernel_rfl
@[go_sem] theorem ty_153_931 : tsz Try.prog 153 = some 1 := by kernel_rfl
@[go_sem] theorem ty_153_932 : tbytes Try.prog 153 = some 8 := by kernel_rfl
@[go_sem] theorem ty_153_933 : tzero Try.prog 153 = some [.pointer none] := by kernel_rfl
@[go_sem] theorem ty_153_934 : tagg Try.prog 153 = some false := by kernel_rfl
@[go_sem] theorem ty_153_935 : blksz Try.prog 153 = some 1 := by kernel_rfl
@[go_sem] theorem res_0 : Try.f0.results = #[] := rfl
@[go_sem] theorem res_1 : Try.f1.results = #[] := rfl
@[go_sem] theorem res_2 : Try.f2.results = #[] := rfl
@[go_sem] theorem res_3 : Try.f3.results = #[ResultVar.tmp 4] := rfl
@[go_sem] theorem res_4 : Try.f4.results = #[ResultVar.tmp 4] := rfl
@[go_sem] theorem res_5 : Try.f5.results = #[ResultVar.tmp 0] := rfl
@[go_sem] theorem res_6 : Try.f6.results = #[ResultVar.tmp 2] := rfl
@[go_sem] theorem res_7 : Try.f7.results = #[ResultVar.tmp 2] := rfl
@[go_sem] theorem res_8 : Try.f8.results = #[ResultVar.tmp 4] := rfl
@[go_sem] theorem res_9 : Try.f9.results = #[ResultVar.tmp 4, ResultVar.tmp 5] := rfl
@[go_sem] theorem res_10 : Try.f10.results = #[ResultVar.cell 2 39] := rfl
@[go_sem] theorem res_11 : Try.f11.results = #[ResultVar.tmp 6] := rfl
@[go_sem] theorem res_12 : Try.f12.results = #[ResultVar.tmp 4, ResultVar.tmp 5] := rfl
@[go_sem] theorem res_13 : Try.f13.results = #[ResultVar.tmp 4, ResultVar.tmp 5] := rfl
@[go_sem] theorem res_14 : Try.f14.results = #[ResultVar.tmp 2] := rfl
@[go_sem] theorem res_15 : Try.f15.results = #[ResultVar.cell 4 39] := rfl
@[go_sem] theorem res_16 : Try.f16.results = #[ResultVar.tmp 4] := rfl
@[go_sem] theorem res_17 : Try.f17.results = #[ResultVar.tmp 4, ResultVar.tmp 5] := rfl
@[go_sem] theorem res_18 : Try.f18.results = #[ResultVar.tmp 2, ResultVar.tmp 3] := rfl
@[go_sem] theorem res_19 : Try.f19.results = #[ResultVar.tmp 4] := rfl
@[go_sem] theorem res_20 : Try.f20.results = #[ResultVar.tmp 4] := rfl
@[go_sem] theorem res_21 : Try.f21.results = #[ResultVar.tmp 4] := rfl
@[go_sem] theorem res_22 : Try.f22.results = #[ResultVar.cell 2 37] := rfl
@[go_sem] theorem res_23 : Try.f23.results = #[ResultVar.tmp 2] := rfl
@[go_sem] theorem res_24 : Try.f24.results = #[ResultVar.tmp 2] := rfl
@[go_sem] theorem res_25 : Try.f25.results = #[ResultVar.cell 4 37] := rfl
@[go_sem] theorem res_26 : Try.f26.results = #[ResultVar.cell 4 37] := rfl
@[go_sem] theorem res_27 : Try.f27.results = #[ResultVar.tmp 4] := rfl
@[go_sem] theorem res_28 : Try.f28.results = #[ResultVar.tmp 2] := rfl
@[go_sem] theorem res_29 : Try.f29.results = #[ResultVar.tmp 2] := rfl
@[go_sem] theorem res_30 : Try.f30.results = #[ResultVar.tmp 4] := rfl
@[go_sem] theorem res_31 : Try.f31.results = #[ResultVar.tmp 4] := rfl
@[go_sem] theorem res_32 : Try.f32.results = #[ResultVar.cell 4 39] := rfl
@[go_sem] theorem res_33 : Try.f33.results = #[ResultVar.tmp 4] := rfl
@[go_sem] theorem res_34 : Try.f34.results = #[ResultVar.cell 2 37] := rfl
@[go_sem] theorem res_35 : Try.f35.results = #[ResultVar.tmp 2] := rfl
@[go_sem] theorem res_36 : Try.f36.results = #[ResultVar.tmp 2] := rfl
@[go_sem] theorem res_37 : Try.f37.results = #[ResultVar.tmp 2] := rfl
@[go_sem] theorem res_38 : Try.f38.results = #[ResultVar.cell 4 37] := rfl
@[go_sem] theorem res_39 : Try.f39.results = #[ResultVar.tmp 4] := rfl
@[go_sem] theorem res_40 : Try.f40.results = #[ResultVar.tmp 4] := rfl
@[go_sem] theorem res_41 : Try.f41.results = #[ResultVar.tmp 4] := rfl
@[go_sem] theorem res_42 : Try.f42.results = #[ResultVar.tmp 4] := rfl
@[go_sem] theorem res_43 : Try.f43.results = #[ResultVar.tmp 2] := rfl
@[go_sem] theorem res_44 : Try.f44.results = #[ResultVar.tmp 4] := rfl
@[go_sem] theorem res_45 : Try.f45.results = #[ResultVar.cell 4 39] := rfl
@[go_sem] theorem res_46 : Try.f46.results = #[ResultVar.cell 4 39] := rfl
@[go_sem] theorem res_47 : Try.f47.results = #[ResultVar.tmp 6] := rfl
@[go_sem] theorem res_48 : Try.f48.results = #[ResultVar.tmp 4] := rfl
@[go_sem] theorem res_49 : Try.f49.results = #[ResultVar.tmp 2] := rfl
@[go_sem] theorem res_50 : Try.f50.results = #[ResultVar.tmp 4] := rfl
@[go_sem] theorem res_51 : Try.f51.results = #[ResultVar.tmp 4, ResultVar.tmp 5] := rfl
@[go_sem] theorem res_52 : Try.f52.results = #[ResultVar.tmp 2] := rfl
@[go_sem] theorem res_53 : Try.f53.results = #[ResultVar.tmp 2, ResultVar.tmp 3] := rfl
@[go_sem] theorem res_54 : Try.f54.results = #[ResultVar.tmp 2] := rfl
@[go_sem] theorem res_55 : Try.f55.results = #[ResultVar.tmp 4] := rfl
@[go_sem] theorem res_56 : Try.f56.results = #[ResultVar.tmp 2] := rfl
@[go_sem] theorem res_57 : Try.f57.results = #[ResultVar.tmp 2] := rfl
@[go_sem] theorem res_58 : Try.f58.results = #[ResultVar.tmp 2] := rfl
@[go_sem] theorem res_59 : Try.f59.results = #[ResultVar.tmp 2] := rfl
@[go_sem] theorem res_60 : Try.f60.results = #[ResultVar.tmp 4] := rfl
@[go_sem] theorem res_61 : Try.f61.results = #[ResultVar.tmp 3] := rfl
@[go_sem] theorem res_62 : Try.f62.results = #[ResultVar.cell 4 39] := rfl
@[go_sem] theorem res_63 : Try.f63.results = #[ResultVar.cell 2 37] := rfl
@[go_sem] theorem res_64 : Try.f64.results = #[ResultVar.cell 4 37, ResultVar.cell 5 37] := rfl
@[go_sem] theorem res_65 : Try.f65.results = #[ResultVar.tmp 2] := rfl
@[go_sem] theorem res_66 : Try.f66.results = #[ResultVar.tmp 4] := rfl
@[go_sem] theorem res_67 : Try.f67.results = #[ResultVar.tmp 2, ResultVar.tmp 3] := rfl
@[go_sem] theorem res_68 : Try.f68.results = #[ResultVar.tmp 2] := rfl
@[go_sem] theorem res_69 : Try.f69.results = #[ResultVar.tmp 4] := rfl
@[go_sem] theorem res_70 : Try.f70.results = #[ResultVar.cell 4 37] := rfl
@[go_sem] theorem res_71 : Try.f71.results = #[ResultVar.tmp 4] := rfl
@[go_sem] theorem res_72 : Try.f72.results = #[ResultVar.tmp 2] := rfl
@[go_sem] theorem res_73 : Try.f73.results = #[ResultVar.tmp 2] := rfl
@[go_sem] theorem res_74 : Try.f74.results = #[ResultVar.cell 0 37] := rfl
@[go_sem] theorem res_75 : Try.f75.results = #[ResultVar.tmp 2, ResultVar.tmp 3] := rfl
@[go_sem] theorem res_76 : Try.f76.results = #[ResultVar.tmp 4] := rfl
@[go_sem] theorem res_77 : Try.f77.results = #[ResultVar.tmp 4] := rfl
@[go_sem] theorem res_78 : Try.f78.results = #[ResultVar.tmp 4, ResultVar.tmp 5] := rfl
@[go_sem] theorem res_79 : Try.f79.results = #[ResultVar.tmp 2] := rfl
@[go_sem] theorem res_80 : Try.f80.results = #[ResultVar.tmp 4] := rfl
@[go_sem] theorem res_81 : Try.f81.results = #[ResultVar.tmp 4] := rfl
@[go_sem] theorem res_82 : Try.f82.results = #[ResultVar.tmp 2] := rfl
@[go_sem] theorem res_83 : Try.f83.results = #[ResultVar.tmp 2] := rfl
@[go_sem] theorem res_84 : Try.f84.results = #[ResultVar.tmp 2] := rfl
@[go_sem] theorem res_85 : Try.f85.results = #[ResultVar.tmp 4] := rfl
@[go_sem] theorem res_86 : Try.f86.results = #[ResultVar.tmp 2] := rfl
@[go_sem] theorem res_87 : Try.f87.results = #[ResultVar.tmp 4] := rfl
@[go_sem] theorem res_88 : Try.f88.results = #[ResultVar.tmp 2] := rfl
@[go_sem] theorem res_89 : Try.f89.results = #[ResultVar.tmp 2] := rfl
@[go_sem] theorem res_90 : Try.f90.results = #[ResultVar.tmp 4, ResultVar.tmp 5] := rfl
@[go_sem] theorem res_91 : Try.f91.results = #[] := rfl
@[go_sem] theorem res_92 : Try.f92.results = #[] := rfl
@[go_sem] theorem res_93 : Try.f93.results = #[ResultVar.tmp 2] := rfl
@[go_sem] theorem res_94 : Try.f94.results = #[ResultVar.tmp 2] := rfl
@[go_sem] theorem res_95 : Try.f95.results = #[ResultVar.tmp 2] := rfl
@[go_sem] theorem res_96 : Try.f96.results = #[ResultVar.tmp 4, ResultVar.tmp 5] := rfl
@[go_sem] theorem res_97 : Try.f97.results = #[ResultVar.tmp 4] := rfl
@[go_sem] theorem res_98 : Try.f98.results = #[ResultVar.tmp 2] := rfl
@[go_sem] theorem res_99 : Try.f99.results = #[ResultVar.tmp 2] := rfl
@[go_sem] theorem res_100 : Try.f100.results = #[ResultVar.tmp 4] := rfl
@[go_sem] theorem res_101 : Try.f101.results = #[ResultVar.tmp 6, ResultVar.tmp 7] := rfl
@[go_sem] theorem res_102 : Try.f102.results = #[ResultVar.tmp 2] := rfl
@[go_sem] theorem res_103 : Try.f103.results = #[ResultVar.tmp 4] := rfl
@[go_sem] theorem res_104 : Try.f104.results = #[ResultVar.tmp 4] := rfl
@[go_sem] theorem res_105 : Try.f105.results = #[ResultVar.tmp 4] := rfl
@[go_sem] theorem res_106 : Try.f106.results = #[] := rfl
@[go_sem] theorem res_107 : Try.f107.results = #[ResultVar.tmp 2] := rfl
@[go_sem] theorem res_108 : Try.f108.results = #[] := rfl
@[go_sem] theorem res_109 : Try.f109.results = #[] := rfl
@[go_sem] theorem res_110 : Try.f110.results = #[] := rfl
@[go_sem] theorem res_111 : Try.f111.results = #[] := rfl
@[go_sem] theorem res_112 : Try.f112.results = #[] := rfl
@[go_sem] theorem res_113 : Try.f113.results = #[] := rfl
@[go_sem] theorem res_114 : Try.f114.results = #[] := rfl
@[go_sem] theorem res_115 : Try.f115.results = #[] := rfl
@[go_sem] theorem res_116 : Try.f116.results = #[] := rfl
@[go_sem] theorem res_117 : Try.f117.results = #[] := rfl
@[go_sem] theorem res_118 : Try.f118.results = #[] := rfl
@[go_sem] theorem res_119 : Try.f119.results = #[] := rfl
@[go_sem] theorem res_120 : Try.f120.results = #[] := rfl
@[go_sem] theorem res_121 : Try.f121.results = #[] := rfl
@[go_sem] theorem res_122 : Try.f122.results = #[] := rfl
@[go_sem] theorem res_123 : Try.f123.results = #[] := rfl
@[go_sem] theorem res_124 : Try.f124.results = #[] := rfl
end Gx
end
