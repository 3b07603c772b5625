/- What the types of the seat's program come to. (Printed by gxfacts.py.) -/
import Derived.Test.YtehnbdbhjeffaaaGreatGz9
import Derived.Test.YtehnbdbhjeffaaaGreatProg
import Derived.KernelRfl
set_option linter.all false
set_option linter.unusedVariables false
set_option linter.unusedSimpArgs false
set_option linter.unnecessarySimpa false
set_option linter.deprecated false
section
set_option autoImplicit false
namespace Gx
open Go Go.Proofs
@[go_sem] theorem ty_0_1 : tsz Tryz.prog 0 = some 1 := by kernel_rfl
@[go_sem] theorem ty_0_2 : tbytes Tryz.prog 0 = some 0 := by kernel_rfl
@[go_sem] theorem ty_0_3 : tagg Tryz.prog 0 = some false := by kernel_rfl
@[go_sem] theorem ty_0_4 : blksz Tryz.prog 0 = some 1 := by kernel_rfl
@[go_sem] theorem ty_1_5 : tsz Tryz.prog 1 = some 1 := by kernel_rfl
@[go_sem] theorem ty_1_6 : tbytes Tryz.prog 1 = some 8 := by kernel_rfl
@[go_sem] theorem ty_1_7 : tzero Tryz.prog 1 = some [.nilFunc] := by kernel_rfl
@[go_sem] theorem ty_1_8 : tagg Tryz.prog 1 = some false := by kernel_rfl
@[go_sem] theorem ty_1_9 : blksz Tryz.prog 1 = some 1 := by kernel_rfl
@[go_sem] theorem ty_2_10 : tsz Tryz.prog 2 = some 1 := by kernel_rfl
@[go_sem] theorem ty_2_11 : tbytes Tryz.prog 2 = some 8 := by kernel_rfl
@[go_sem] theorem ty_2_12 : tzero Tryz.prog 2 = some [.int .i64 0] := by kernel_rfl
@[go_sem] theorem ty_2_13 : tagg Tryz.prog 2 = some false := by kernel_rfl
@[go_sem] theorem ty_2_14 : tint Tryz.prog 2 = some .i64 := by kernel_rfl
@[go_sem] theorem ty_2_15 : blksz Tryz.prog 2 = some 1 := by kernel_rfl
@[go_sem] theorem ty_3_16 : tsz Tryz.prog 3 = some 1 := by kernel_rfl
@[go_sem] theorem ty_3_17 : tbytes Tryz.prog 3 = some 8 := by kernel_rfl
@[go_sem] theorem ty_3_18 : tzero Tryz.prog 3 = some [.int .i64 0] := by kernel_rfl
@[go_sem] theorem ty_3_19 : tagg Tryz.prog 3 = some false := by kernel_rfl
@[go_sem] theorem ty_3_20 : tint Tryz.prog 3 = some .i64 := by kernel_rfl
@[go_sem] theorem ty_3_21 : blksz Tryz.prog 3 = some 1 := by kernel_rfl
@[go_sem] theorem ty_4_22 : tsz Tryz.prog 4 = some 1 := by kernel_rfl
@[go_sem] theorem ty_4_23 : tbytes Tryz.prog 4 = some 1 := by kernel_rfl
@[go_sem] theorem ty_4_24 : tzero Tryz.prog 4 = some [.bool false] := by kernel_rfl
@[go_sem] theorem ty_4_25 : tagg Tryz.prog 4 = some false := by kernel_rfl
@[go_sem] theorem ty_4_26 : tbool Tryz.prog 4 = true := by kernel_rfl
@[go_sem] theorem ty_4_27 : blksz Tryz.prog 4 = some 1 := by kernel_rfl
@[go_sem] theorem ty_5_28 : tsz Tryz.prog 5 = some 1 := by kernel_rfl
@[go_sem] theorem ty_5_29 : tbytes Tryz.prog 5 = some 1 := by kernel_rfl
@[go_sem] theorem ty_5_30 : tzero Tryz.prog 5 = some [.int .u8 0] := by kernel_rfl
@[go_sem] theorem ty_5_31 : tagg Tryz.prog 5 = some false := by kernel_rfl
@[go_sem] theorem ty_5_32 : tint Tryz.prog 5 = some .u8 := by kernel_rfl
@[go_sem] theorem ty_5_33 : blksz Tryz.prog 5 = some 1 := by kernel_rfl
@[go_sem] theorem ty_6_34 : tsz Tryz.prog 6 = some 1 := by kernel_rfl
@[go_sem] theorem ty_6_35 : tbytes Tryz.prog 6 = some 1 := by kernel_rfl
@[go_sem] theorem ty_6_36 : tzero Tryz.prog 6 = some [.int .u8 0] := by kernel_rfl
@[go_sem] theorem ty_6_37 : tagg Tryz.prog 6 = some false := by kernel_rfl
@[go_sem] theorem ty_6_38 : tint Tryz.prog 6 = some .u8 := by kernel_rfl
@[go_sem] theorem ty_6_39 : blksz Tryz.prog 6 = some 1 := by kernel_rfl
@[go_sem] theorem ty_7_40 : tsz Tryz.prog 7 = some 4 := by kernel_rfl
@[go_sem] theorem ty_7_41 : tbytes Tryz.prog 7 = some 24 := by kernel_rfl
@[go_sem] theorem ty_7_42 : tzero Tryz.prog 7 = some [.int .i64 0, .int .i64 0, .bool false, .int .u8 0] := by kernel_rfl
@[go_sem] theorem ty_7_43 : tagg Tryz.prog 7 = some true := by kernel_rfl
@[go_sem] theorem ty_7_44 : tarr Tryz.prog 7 = none := by kernel_rfl
@[go_sem] theorem ty_7_45 : blksz Tryz.prog 7 = some 4 := by kernel_rfl
@[go_sem] theorem ty_7_46 : tplaces Tryz.prog 7 = some [(0, 1), (1, 1), (2, 1), (3, 1)] := by kernel_rfl
@[go_sem] theorem ty_7_47 : structK Tryz.prog 7 = some [1, 1, 0, 1] := by kernel_rfl
@[go_sem] theorem ty_7_48 : tfield Tryz.prog 7 0 = some (0, 2) := by kernel_rfl
@[go_sem] theorem ty_7_49 : tfield Tryz.prog 7 1 = some (1, 3) := by kernel_rfl
@[go_sem] theorem ty_7_50 : tfield Tryz.prog 7 2 = some (2, 4) := by kernel_rfl
@[go_sem] theorem ty_7_51 : tfield Tryz.prog 7 3 = some (3, 6) := by kernel_rfl
@[go_sem] theorem ty_8_52 : tsz Tryz.prog 8 = some 4 := by kernel_rfl
@[go_sem] theorem ty_8_53 : tbytes Tryz.prog 8 = some 24 := by kernel_rfl
@[go_sem] theorem ty_8_54 : tzero Tryz.prog 8 = some [.int .i64 0, .int .i64 0, .bool false, .int .u8 0] := by kernel_rfl
@[go_sem] theorem ty_8_55 : tagg Tryz.prog 8 = some true := by kernel_rfl
@[go_sem] theorem ty_8_56 : tarr Tryz.prog 8 = none := by kernel_rfl
@[go_sem] theorem ty_8_57 : blksz Tryz.prog 8 = some 4 := by kernel_rfl
@[go_sem] theorem ty_8_58 : tplaces Tryz.prog 8 = some [(0, 1), (1, 1), (2, 1), (3, 1)] := by kernel_rfl
@[go_sem] theorem ty_8_59 : structK Tryz.prog 8 = some [1, 1, 0, 1] := by kernel_rfl
@[go_sem] theorem ty_8_60 : tfield Tryz.prog 8 0 = some (0, 2) := by kernel_rfl
@[go_sem] theorem ty_8_61 : tfield Tryz.prog 8 1 = some (1, 3) := by kernel_rfl
@[go_sem] theorem ty_8_62 : tfield Tryz.prog 8 2 = some (2, 4) := by kernel_rfl
@[go_sem] theorem ty_8_63 : tfield Tryz.prog 8 3 = some (3, 6) := by kernel_rfl
@[go_sem] theorem ty_9_64 : tsz Tryz.prog 9 = some 1 := by kernel_rfl
@[go_sem] theorem ty_9_65 : tbytes Tryz.prog 9 = some 16 := by kernel_rfl
@[go_sem] theorem ty_9_66 : tzero Tryz.prog 9 = some [.string ByteArray.empty] := by kernel_rfl
@[go_sem] theorem ty_9_67 : tagg Tryz.prog 9 = some false := by kernel_rfl
@[go_sem] theorem ty_9_68 : tstr Tryz.prog 9 = true := by kernel_rfl
@[go_sem] theorem ty_9_69 : blksz Tryz.prog 9 = some 1 := by kernel_rfl
@[go_sem] theorem ty_10_70 : tsz Tryz.prog 10 = some 1 := by kernel_rfl
@[go_sem] theorem ty_10_71 : tbytes Tryz.prog 10 = some 16 := by kernel_rfl
@[go_sem] theorem ty_10_72 : tzero Tryz.prog 10 = some [.string ByteArray.empty] := by kernel_rfl
@[go_sem] theorem ty_10_73 : tagg Tryz.prog 10 = some false := by kernel_rfl
@[go_sem] theorem ty_10_74 : tstr Tryz.prog 10 = true := by kernel_rfl
@[go_sem] theorem ty_10_75 : blksz Tryz.prog 10 = some 1 := by kernel_rfl
@[go_sem] theorem ty_11_76 : tsz Tryz.prog 11 = some 1 := by kernel_rfl
@[go_sem] theorem ty_11_77 : tbytes Tryz.prog 11 = some 16 := by kernel_rfl
@[go_sem] theorem ty_11_78 : tzero Tryz.prog 11 = some [.string ByteArray.empty] := by kernel_rfl
@[go_sem] theorem ty_11_79 : tagg Tryz.prog 11 = some false := by kernel_rfl
@[go_sem] theorem ty_11_80 : tstr Tryz.prog 11 = true := by kernel_rfl
@[go_sem] theorem ty_11_81 : blksz Tryz.prog 11 = some 1 := by kernel_rfl
@[go_sem] theorem ty_12_82 : tsz Tryz.prog 12 = some 1 := by kernel_rfl
@[go_sem] theorem ty_12_83 : tbytes Tryz.prog 12 = some 8 := by kernel_rfl
@[go_sem] theorem ty_12_84 : tzero Tryz.prog 12 = some [.int .u64 0] := by kernel_rfl
@[go_sem] theorem ty_12_85 : tagg Tryz.prog 12 = some false := by kernel_rfl
@[go_sem] theorem ty_12_86 : tint Tryz.prog 12 = some .u64 := by kernel_rfl
@[go_sem] theorem ty_12_87 : blksz Tryz.prog 12 = some 1 := by kernel_rfl
@[go_sem] theorem ty_13_88 : tsz Tryz.prog 13 = some 2 := by kernel_rfl
@[go_sem] theorem ty_13_89 : tbytes Tryz.prog 13 = some 24 := by kernel_rfl
@[go_sem] theorem ty_13_90 : tzero Tryz.prog 13 = some [.string ByteArray.empty, .int .u64 0] := by kernel_rfl
@[go_sem] theorem ty_13_91 : tagg Tryz.prog 13 = some true := by kernel_rfl
@[go_sem] theorem ty_13_92 : tarr Tryz.prog 13 = none := by kernel_rfl
@[go_sem] theorem ty_13_93 : blksz Tryz.prog 13 = some 2 := by kernel_rfl
@[go_sem] theorem ty_13_94 : tplaces Tryz.prog 13 = some [(0, 1), (1, 1)] := by kernel_rfl
@[go_sem] theorem ty_13_95 : tfield Tryz.prog 13 0 = some (0, 9) := by kernel_rfl
@[go_sem] theorem ty_13_96 : tfield Tryz.prog 13 1 = some (1, 12) := by kernel_rfl
@[go_sem] theorem ty_14_97 : tsz Tryz.prog 14 = some 2 := by kernel_rfl
@[go_sem] theorem ty_14_98 : tbytes Tryz.prog 14 = some 24 := by kernel_rfl
@[go_sem] theorem ty_14_99 : tzero Tryz.prog 14 = some [.string ByteArray.empty, .int .u64 0] := by kernel_rfl
@[go_sem] theorem ty_14_100 : tagg Tryz.prog 14 = some true := by kernel_rfl
@[go_sem] theorem ty_14_101 : tarr Tryz.prog 14 = none := by kernel_rfl
@[go_sem] theorem ty_14_102 : blksz Tryz.prog 14 = some 2 := by kernel_rfl
@[go_sem] theorem ty_14_103 : tplaces Tryz.prog 14 = some [(0, 1), (1, 1)] := by kernel_rfl
@[go_sem] theorem ty_14_104 : tfield Tryz.prog 14 0 = some (0, 9) := by kernel_rfl
@[go_sem] theorem ty_14_105 : tfield Tryz.prog 14 1 = some (1, 12) := by kernel_rfl
@[go_sem] theorem ty_15_106 : tsz Tryz.prog 15 = some 1 := by kernel_rfl
@[go_sem] theorem ty_15_107 : tbytes Tryz.prog 15 = some 8 := by kernel_rfl
@[go_sem] theorem ty_15_108 : tzero Tryz.prog 15 = some [.pointer none] := by kernel_rfl
@[go_sem] theorem ty_15_109 : tagg Tryz.prog 15 = some false := by kernel_rfl
@[go_sem] theorem ty_15_110 : blksz Tryz.prog 15 = some 1 := by kernel_rfl
@[go_sem] theorem ty_16_111 : tsz Tryz.prog 16 = some 1 := by kernel_rfl
@[go_sem] theorem ty_16_112 : tbytes Tryz.prog 16 = some 8 := by kernel_rfl
@[go_sem] theorem ty_16_113 : tzero Tryz.prog 16 = some [.pointer none] := by kernel_rfl
@[go_sem] theorem ty_16_114 : tagg Tryz.prog 16 = some false := by kernel_rfl
@[go_sem] theorem ty_16_115 : blksz Tryz.prog 16 = some 1 := by kernel_rfl
@[go_sem] theorem ty_17_116 : tsz Tryz.prog 17 = some 1 := by kernel_rfl
@[go_sem] theorem ty_17_117 : tbytes Tryz.prog 17 = some 8 := by kernel_rfl
@[go_sem] theorem ty_17_118 : tzero Tryz.prog 17 = some [.pointer none] := by kernel_rfl
@[go_sem] theorem ty_17_119 : tagg Tryz.prog 17 = some false := by kernel_rfl
@[go_sem] theorem ty_17_120 : blksz Tryz.prog 17 = some 1 := by kernel_rfl
@[go_sem] theorem ty_18_121 : tsz Tryz.prog 18 = some 1 := by kernel_rfl
@[go_sem] theorem ty_18_122 : tbytes Tryz.prog 18 = some 8 := by kernel_rfl
@[go_sem] theorem ty_18_123 : tzero Tryz.prog 18 = some [.pointer none] := by kernel_rfl
@[go_sem] theorem ty_18_124 : tagg Tryz.prog 18 = some true := by kernel_rfl
@[go_sem] theorem ty_18_125 : tarr Tryz.prog 18 = none := by kernel_rfl
@[go_sem] theorem ty_18_126 : blksz Tryz.prog 18 = some 1 := by kernel_rfl
@[go_sem] theorem ty_18_127 : tplaces Tryz.prog 18 = some [(0, 1)] := by kernel_rfl
@[go_sem] theorem ty_18_128 : tfield Tryz.prog 18 0 = some (0, 17) := by kernel_rfl
@[go_sem] theorem ty_19_129 : tsz Tryz.prog 19 = some 1 := by kernel_rfl
@[go_sem] theorem ty_19_130 : tbytes Tryz.prog 19 = some 8 := by kernel_rfl
@[go_sem] theorem ty_19_131 : tzero Tryz.prog 19 = some [.pointer none] := by kernel_rfl
@[go_sem] theorem ty_19_132 : tagg Tryz.prog 19 = some true := by kernel_rfl
@[go_sem] theorem ty_19_133 : tarr Tryz.prog 19 = none := by kernel_rfl
@[go_sem] theorem ty_19_134 : blksz Tryz.prog 19 = some 1 := by kernel_rfl
@[go_sem] theorem ty_19_135 : tplaces Tryz.prog 19 = some [(0, 1)] := by kernel_rfl
@[go_sem] theorem ty_19_136 : tfield Tryz.prog 19 0 = some (0, 17) := by kernel_rfl
@[go_sem] theorem ty_20_137 : tsz Tryz.prog 20 = some 1 := by kernel_rfl
@[go_sem] theorem ty_20_138 : tbytes Tryz.prog 20 = some 16 := by kernel_rfl
@[go_sem] theorem ty_20_139 : tzero Tryz.prog 20 = some [.nilIface] := by kernel_rfl
@[go_sem] theorem ty_20_140 : tagg Tryz.prog 20 = some false := by kernel_rfl
@[go_sem] theorem ty_20_141 : blksz Tryz.prog 20 = some 1 := by kernel_rfl
@[go_sem] theorem ty_21_142 : tsz Tryz.prog 21 = some 1 := by kernel_rfl
@[go_sem] theorem ty_21_143 : tbytes Tryz.prog 21 = some 4 := by kernel_rfl
@[go_sem] theorem ty_21_144 : tzero Tryz.prog 21 = some [.int .i32 0] := by kernel_rfl
@[go_sem] theorem ty_21_145 : tagg Tryz.prog 21 = some false := by kernel_rfl
@[go_sem] theorem ty_21_146 : tint Tryz.prog 21 = some .i32 := by kernel_rfl
@[go_sem] theorem ty_21_147 : blksz Tryz.prog 21 = some 1 := by kernel_rfl
@[go_sem] theorem ty_22_148 : tsz Tryz.prog 22 = some 1 := by kernel_rfl
@[go_sem] theorem ty_22_149 : tbytes Tryz.prog 22 = some 24 := by kernel_rfl
@[go_sem] theorem ty_22_150 : tzero Tryz.prog 22 = some [.slice none 0 0] := by kernel_rfl
@[go_sem] theorem ty_22_151 : tagg Tryz.prog 22 = some false := by kernel_rfl
@[go_sem] theorem ty_22_152 : telem Tryz.prog 22 = some 55 := by kernel_rfl
@[go_sem] theorem ty_22_153 : tstr Tryz.prog 22 = false := by kernel_rfl
@[go_sem] theorem ty_22_154 : blksz Tryz.prog 22 = some 1 := by kernel_rfl
@[go_sem] theorem ty_23_155 : tsz Tryz.prog 23 = some 1 := by kernel_rfl
@[go_sem] theorem ty_23_156 : tbytes Tryz.prog 23 = some 24 := by kernel_rfl
@[go_sem] theorem ty_23_157 : tzero Tryz.prog 23 = some [.slice none 0 0] := by kernel_rfl
@[go_sem] theorem ty_23_158 : tagg Tryz.prog 23 = some false := by kernel_rfl
@[go_sem] theorem ty_23_159 : telem Tryz.prog 23 = some 55 := by kernel_rfl
@[go_sem] theorem ty_23_160 : tstr Tryz.prog 23 = false := by kernel_rfl
@[go_sem] theorem ty_23_161 : blksz Tryz.prog 23 = some 1 := by kernel_rfl
@[go_sem] theorem ty_24_162 : tsz Tryz.prog 24 = some 1 := by kernel_rfl
@[go_sem] theorem ty_24_163 : tbytes Tryz.prog 24 = some 8 := by kernel_rfl
@[go_sem] theorem ty_24_164 : tzero Tryz.prog 24 = some [.int .i64 0] := by kernel_rfl
@[go_sem] theorem ty_24_165 : tagg Tryz.prog 24 = some false := by kernel_rfl
@[go_sem] theorem ty_24_166 : tint Tryz.prog 24 = some .i64 := by kernel_rfl
@[go_sem] theorem ty_24_167 : blksz Tryz.prog 24 = some 1 := by kernel_rfl
@[go_sem] theorem ty_25_168 : tsz Tryz.prog 25 = some 1 := by kernel_rfl
@[go_sem] theorem ty_25_169 : tbytes Tryz.prog 25 = some 0 := by kernel_rfl
@[go_sem] theorem ty_25_170 : tagg Tryz.prog 25 = some false := by kernel_rfl
@[go_sem] theorem ty_25_171 : blksz Tryz.prog 25 = some 1 := by kernel_rfl
@[go_sem] theorem ty_26_172 : tsz Tryz.prog 26 = some 1 := by kernel_rfl
@[go_sem] theorem ty_26_173 : tbytes Tryz.prog 26 = some 8 := by kernel_rfl
@[go_sem] theorem ty_26_174 : tzero Tryz.prog 26 = some [.nilFunc] := by kernel_rfl
@[go_sem] theorem ty_26_175 : tagg Tryz.prog 26 = some false := by kernel_rfl
@[go_sem] theorem ty_26_176 : blksz Tryz.prog 26 = some 1 := by kernel_rfl
@[go_sem] theorem ty_27_177 : tsz Tryz.prog 27 = some 1 := by kernel_rfl
@[go_sem] theorem ty_27_178 : tbytes Tryz.prog 27 = some 24 := by kernel_rfl
@[go_sem] theorem ty_27_179 : tzero Tryz.prog 27 = some [.slice none 0 0] := by kernel_rfl
@[go_sem] theorem ty_27_180 : tagg Tryz.prog 27 = some false := by kernel_rfl
@[go_sem] theorem ty_27_181 : telem Tryz.prog 27 = some 22 := by kernel_rfl
@[go_sem] theorem ty_27_182 : tstr Tryz.prog 27 = false := by kernel_rfl
@[go_sem] theorem ty_27_183 : blksz Tryz.prog 27 = some 1 := by kernel_rfl
@[go_sem] theorem ty_28_184 : tsz Tryz.prog 28 = some 1 := by kernel_rfl
@[go_sem] theorem ty_28_185 : tbytes Tryz.prog 28 = some 24 := by kernel_rfl
@[go_sem] theorem ty_28_186 : tzero Tryz.prog 28 = some [.slice none 0 0] := by kernel_rfl
@[go_sem] theorem ty_28_187 : tagg Tryz.prog 28 = some false := by kernel_rfl
@[go_sem] theorem ty_28_188 : telem Tryz.prog 28 = some 22 := by kernel_rfl
@[go_sem] theorem ty_28_189 : tstr Tryz.prog 28 = false := by kernel_rfl
@[go_sem] theorem ty_28_190 : blksz Tryz.prog 28 = some 1 := by kernel_rfl
@[go_sem] theorem ty_29_191 : tsz Tryz.prog 29 = some 1 := by kernel_rfl
@[go_sem] theorem ty_29_192 : tbytes Tryz.prog 29 = some 0 := by kernel_rfl
@[go_sem] theorem ty_29_193 : tagg Tryz.prog 29 = some false := by kernel_rfl
@[go_sem] theorem ty_29_194 : blksz Tryz.prog 29 = some 1 := by kernel_rfl
@[go_sem] theorem ty_30_195 : tsz Tryz.prog 30 = some 1 := by kernel_rfl
@[go_sem] theorem ty_30_196 : tbytes Tryz.prog 30 = some 8 := by kernel_rfl
@[go_sem] theorem ty_30_197 : tzero Tryz.prog 30 = some [.nilFunc] := by kernel_rfl
@[go_sem] theorem ty_30_198 : tagg Tryz.prog 30 = some false := by kernel_rfl
@[go_sem] theorem ty_30_199 : blksz Tryz.prog 30 = some 1 := by kernel_rfl
@[go_sem] theorem ty_31_200 : tsz Tryz.prog 31 = some 1 := by kernel_rfl
@[go_sem] theorem ty_31_201 : tbytes Tryz.prog 31 = some 8 := by kernel_rfl
@[go_sem] theorem ty_31_202 : tzero Tryz.prog 31 = some [.nilFunc] := by kernel_rfl
@[go_sem] theorem ty_31_203 : tagg Tryz.prog 31 = some false := by kernel_rfl
@[go_sem] theorem ty_31_204 : blksz Tryz.prog 31 = some 1 := by kernel_rfl
@[go_sem] theorem ty_32_205 : tsz Tryz.prog 32 = some 1 := by kernel_rfl
@[go_sem] theorem ty_32_206 : tbytes Tryz.prog 32 = some 8 := by kernel_rfl
@[go_sem] theorem ty_32_207 : tzero Tryz.prog 32 = some [.nilFunc] := by kernel_rfl
@[go_sem] theorem ty_32_208 : tagg Tryz.prog 32 = some false := by kernel_rfl
@[go_sem] theorem ty_32_209 : blksz Tryz.prog 32 = some 1 := by kernel_rfl
@[go_sem] theorem ty_33_210 : tsz Tryz.prog 33 = some 1 := by kernel_rfl
@[go_sem] theorem ty_33_211 : tbytes Tryz.prog 33 = some 8 := by kernel_rfl
@[go_sem] theorem ty_33_212 : tzero Tryz.prog 33 = some [.nilFunc] := by kernel_rfl
@[go_sem] theorem ty_33_213 : tagg Tryz.prog 33 = some false := by kernel_rfl
@[go_sem] theorem ty_33_214 : blksz Tryz.prog 33 = some 1 := by kernel_rfl
@[go_sem] theorem ty_34_215 : tsz Tryz.prog 34 = some 1 := by kernel_rfl
@[go_sem] theorem ty_34_216 : tbytes Tryz.prog 34 = some 8 := by kernel_rfl
@[go_sem] theorem ty_34_217 : tzero Tryz.prog 34 = some [.nilFunc] := by kernel_rfl
@[go_sem] theorem ty_34_218 : tagg Tryz.prog 34 = some false := by kernel_rfl
@[go_sem] theorem ty_34_219 : blksz Tryz.prog 34 = some 1 := by kernel_rfl
@[go_sem] theorem ty_35_220 : tsz Tryz.prog 35 = some 1 := by kernel_rfl
@[go_sem] theorem ty_35_221 : tbytes Tryz.prog 35 = some 8 := by kernel_rfl
@[go_sem] theorem ty_35_222 : tzero Tryz.prog 35 = some [.nilFunc] := by kernel_rfl
@[go_sem] theorem ty_35_223 : tagg Tryz.prog 35 = some false := by kernel_rfl
@[go_sem] theorem ty_35_224 : blksz Tryz.prog 35 = some 1 := by kernel_rfl
@[go_sem] theorem ty_36_225 : tsz Tryz.prog 36 = some 1 := by kernel_rfl
@[go_sem] theorem ty_36_226 : tbytes Tryz.prog 36 = some 8 := by kernel_rfl
@[go_sem] theorem ty_36_227 : tzero Tryz.prog 36 = some [.nilFunc] := by kernel_rfl
@[go_sem] theorem ty_36_228 : tagg Tryz.prog 36 = some false := by kernel_rfl
@[go_sem] theorem ty_36_229 : blksz Tryz.prog 36 = some 1 := by kernel_rfl
@[go_sem] theorem ty_37_230 : tsz Tryz.prog 37 = some 1 := by kernel_rfl
@[go_sem] theorem ty_37_231 : tbytes Tryz.prog 37 = some 8 := by kernel_rfl
@[go_sem] theorem ty_37_232 : tzero Tryz.prog 37 = some [.nilFunc] := by kernel_rfl
@[go_sem] theorem ty_37_233 : tagg Tryz.prog 37 = some false := by kernel_rfl
@[go_sem] theorem ty_37_234 : blksz Tryz.prog 37 = some 1 := by kernel_rfl
@[go_sem] theorem ty_38_235 : tsz Tryz.prog 38 = some 1 := by kernel_rfl
@[go_sem] theorem ty_38_236 : tbytes Tryz.prog 38 = some 8 := by kernel_rfl
@[go_sem] theorem ty_38_237 : tzero Tryz.prog 38 = some [.nilFunc] := by kernel_rfl
@[go_sem] theorem ty_38_238 : tagg Tryz.prog 38 = some false := by kernel_rfl
@[go_sem] theorem ty_38_239 : blksz Tryz.prog 38 = some 1 := by kernel_rfl
@[go_sem] theorem ty_39_240 : tsz Tryz.prog 39 = some 1 := by kernel_rfl
@[go_sem] theorem ty_39_241 : tbytes Tryz.prog 39 = some 8 := by kernel_rfl
@[go_sem] theorem ty_39_242 : tzero Tryz.prog 39 = some [.nilFunc] := by kernel_rfl
@[go_sem] theorem ty_39_243 : tagg Tryz.prog 39 = some false := by kernel_rfl
@[go_sem] theorem ty_39_244 : blksz Tryz.prog 39 = some 1 := by kernel_rfl
@[go_sem] theorem ty_40_245 : tsz Tryz.prog 40 = some 1 := by kernel_rfl
@[go_sem] theorem ty_40_246 : tbytes Tryz.prog 40 = some 8 := by kernel_rfl
@[go_sem] theorem ty_40_247 : tzero Tryz.prog 40 = some [.nilFunc] := by kernel_rfl
@[go_sem] theorem ty_40_248 : tagg Tryz.prog 40 = some false := by kernel_rfl
@[go_sem] theorem ty_40_249 : blksz Tryz.prog 40 = some 1 := by kernel_rfl
@[go_sem] theorem ty_41_250 : tsz Tryz.prog 41 = some 1 := by kernel_rfl
@[go_sem] theorem ty_41_251 : tbytes Tryz.prog 41 = some 0 := by kernel_rfl
@[go_sem] theorem ty_41_252 : tagg Tryz.prog 41 = some false := by kernel_rfl
@[go_sem] theorem ty_41_253 : blksz Tryz.prog 41 = some 1 := by kernel_rfl
@[go_sem] theorem ty_42_254 : tsz Tryz.prog 42 = some 1 := by kernel_rfl
@[go_sem] theorem ty_42_255 : tbytes Tryz.prog 42 = some 8 := by kernel_rfl
@[go_sem] theorem ty_42_256 : tzero Tryz.prog 42 = some [.nilFunc] := by kernel_rfl
@[go_sem] theorem ty_42_257 : tagg Tryz.prog 42 = some false := by kernel_rfl
@[go_sem] theorem ty_42_258 : blksz Tryz.prog 42 = some 1 := by kernel_rfl
@[go_sem] theorem ty_43_259 : tsz Tryz.prog 43 = some 1 := by kernel_rfl
@[go_sem] theorem ty_43_260 : tbytes Tryz.prog 43 = some 8 := by kernel_rfl
@[go_sem] theorem ty_43_261 : tzero Tryz.prog 43 = some [.nilFunc] := by kernel_rfl
@[go_sem] theorem ty_43_262 : tagg Tryz.prog 43 = some false := by kernel_rfl
@[go_sem] theorem ty_43_263 : blksz Tryz.prog 43 = some 1 := by kernel_rfl
@[go_sem] theorem ty_44_264 : tsz Tryz.prog 44 = some 1 := by kernel_rfl
@[go_sem] theorem ty_44_265 : tbytes Tryz.prog 44 = some 24 := by kernel_rfl
@[go_sem] theorem ty_44_266 : tzero Tryz.prog 44 = some [.slice none 0 0] := by kernel_rfl
@[go_sem] theorem ty_44_267 : tagg Tryz.prog 44 = some true := by kernel_rfl
@[go_sem] theorem ty_44_268 : tarr Tryz.prog 44 = none := by kernel_rfl
@[go_sem] theorem ty_44_269 : blksz Tryz.prog 44 = some 1 := by kernel_rfl
@[go_sem] theorem ty_44_270 : tplaces Tryz.prog 44 = some [(0, 1)] := by kernel_rfl
@[go_sem] theorem ty_44_271 : tfield Tryz.prog 44 0 = some (0, 23) := by kernel_rfl
@[go_sem] theorem ty_45_272 : tsz Tryz.prog 45 = some 1 := by kernel_rfl
@[go_sem] theorem ty_45_273 : tbytes Tryz.prog 45 = some 24 := by kernel_rfl
@[go_sem] theorem ty_45_274 : tzero Tryz.prog 45 = some [.slice none 0 0] := by kernel_rfl
@[go_sem] theorem ty_45_275 : tagg Tryz.prog 45 = some true := by kernel_rfl
@[go_sem] theorem ty_45_276 : tarr Tryz.prog 45 = none := by kernel_rfl
@[go_sem] theorem ty_45_277 : blksz Tryz.prog 45 = some 1 := by kernel_rfl
@[go_sem] theorem ty_45_278 : tplaces Tryz.prog 45 = some [(0, 1)] := by kernel_rfl
@[go_sem] theorem ty_45_279 : tfield Tryz.prog 45 0 = some (0, 23) := by kernel_rfl
@[go_sem] theorem ty_46_280 : tsz Tryz.prog 46 = some 1 := by kernel_rfl
@[go_sem] theorem ty_46_281 : tbytes Tryz.prog 46 = some 8 := by kernel_rfl
@[go_sem] theorem ty_46_282 : tzero Tryz.prog 46 = some [.nilFunc] := by kernel_rfl
@[go_sem] theorem ty_46_283 : tagg Tryz.prog 46 = some false := by kernel_rfl
@[go_sem] theorem ty_46_284 : blksz Tryz.prog 46 = some 1 := by kernel_rfl
@[go_sem] theorem ty_47_285 : tsz Tryz.prog 47 = some 1 := by kernel_rfl
@[go_sem] theorem ty_47_286 : tbytes Tryz.prog 47 = some 8 := by kernel_rfl
@[go_sem] theorem ty_47_287 : tzero Tryz.prog 47 = some [.nilFunc] := by kernel_rfl
@[go_sem] theorem ty_47_288 : tagg Tryz.prog 47 = some false := by kernel_rfl
@[go_sem] theorem ty_47_289 : blksz Tryz.prog 47 = some 1 := by kernel_rfl
@[go_sem] theorem ty_48_290 : tsz Tryz.prog 48 = some 1 := by kernel_rfl
@[go_sem] theorem ty_48_291 : tbytes Tryz.prog 48 = some 0 := by kernel_rfl
@[go_sem] theorem ty_48_292 : tagg Tryz.prog 48 = some false := by kernel_rfl
@[go_sem] theorem ty_48_293 : blksz Tryz.prog 48 = some 1 := by kernel_rfl
@[go_sem] theorem ty_49_294 : tsz Tryz.prog 49 = some 1 := by kernel_rfl
@[go_sem] theorem ty_49_295 : tbytes Tryz.prog 49 = some 8 := by kernel_rfl
@[go_sem] theorem ty_49_296 : tzero Tryz.prog 49 = some [.nilFunc] := by kernel_rfl
@[go_sem] theorem ty_49_297 : tagg Tryz.prog 49 = some false := by kernel_rfl
@[go_sem] theorem ty_49_298 : blksz Tryz.prog 49 = some 1 := by kernel_rfl
@[go_sem] theorem ty_50_299 : tsz Tryz.prog 50 = some 1 := by kernel_rfl
@[go_sem] theorem ty_50_300 : tbytes Tryz.prog 50 = some 8 := by kernel_rfl
@[go_sem] theorem ty_50_301 : tzero Tryz.prog 50 = some [.nilFunc] := by kernel_rfl
@[go_sem] theorem ty_50_302 : tagg Tryz.prog 50 = some false := by kernel_rfl
@[go_sem] theorem ty_50_303 : blksz Tryz.prog 50 = some 1 := by kernel_rfl
@[go_sem] theorem ty_51_304 : tsz Tryz.prog 51 = some 1 := by kernel_rfl
@[go_sem] theorem ty_51_305 : tbytes Tryz.prog 51 = some 16 := by kernel_rfl
@[go_sem] theorem ty_51_306 : tzero Tryz.prog 51 = some [.string ByteArray.empty] := by kernel_rfl
@[go_sem] theorem ty_51_307 : tagg Tryz.prog 51 = some false := by kernel_rfl
@[go_sem] theorem ty_51_308 : tstr Tryz.prog 51 = true := by kernel_rfl
@[go_sem] theorem ty_51_309 : blksz Tryz.prog 51 = some 1 := by kernel_rfl
@[go_sem] theorem ty_52_310 : tsz Tryz.prog 52 = some 2 := by kernel_rfl
@[go_sem] theorem ty_52_311 : tbytes Tryz.prog 52 = some 24 := by kernel_rfl
@[go_sem] theorem ty_52_312 : tzero Tryz.prog 52 = some [.bool false, .string ByteArray.empty] := by kernel_rfl
@[go_sem] theorem ty_52_313 : tagg Tryz.prog 52 = some true := by kernel_rfl
@[go_sem] theorem ty_52_314 : tarr Tryz.prog 52 = none := by kernel_rfl
@[go_sem] theorem ty_52_315 : blksz Tryz.prog 52 = some 2 := by kernel_rfl
@[go_sem] theorem ty_52_316 : tplaces Tryz.prog 52 = some [(0, 1), (1, 1)] := by kernel_rfl
@[go_sem] theorem ty_52_317 : structK Tryz.prog 52 = some [0, 2] := by kernel_rfl
@[go_sem] theorem ty_52_318 : tfield Tryz.prog 52 0 = some (0, 4) := by kernel_rfl
@[go_sem] theorem ty_52_319 : tfield Tryz.prog 52 1 = some (1, 51) := by kernel_rfl
@[go_sem] theorem ty_53_320 : tsz Tryz.prog 53 = some 2 := by kernel_rfl
@[go_sem] theorem ty_53_321 : tbytes Tryz.prog 53 = some 24 := by kernel_rfl
@[go_sem] theorem ty_53_322 : tzero Tryz.prog 53 = some [.bool false, .string ByteArray.empty] := by kernel_rfl
@[go_sem] theorem ty_53_323 : tagg Tryz.prog 53 = some true := by kernel_rfl
@[go_sem] theorem ty_53_324 : tarr Tryz.prog 53 = none := by kernel_rfl
@[go_sem] theorem ty_53_325 : blksz Tryz.prog 53 = some 2 := by kernel_rfl
@[go_sem] theorem ty_53_326 : tplaces Tryz.prog 53 = some [(0, 1), (1, 1)] := by kernel_rfl
@[go_sem] theorem ty_53_327 : structK Tryz.prog 53 = some [0, 2] := by kernel_rfl
@[go_sem] theorem ty_53_328 : tfield Tryz.prog 53 0 = some (0, 4) := by kernel_rfl
@[go_sem] theorem ty_53_329 : tfield Tryz.prog 53 1 = some (1, 51) := by kernel_rfl
@[go_sem] theorem ty_54_330 : tsz Tryz.prog 54 = some 3 := by kernel_rfl
@[go_sem] theorem ty_54_331 : tbytes Tryz.prog 54 = some 40 := by kernel_rfl
@[go_sem] theorem ty_54_332 : tzero Tryz.prog 54 = some [.bool false, .string ByteArray.empty, .string ByteArray.empty] := by kernel_rfl
@[go_sem] theorem ty_54_333 : tagg Tryz.prog 54 = some true := by kernel_rfl
@[go_sem] theorem ty_54_334 : tarr Tryz.prog 54 = none := by kernel_rfl
@[go_sem] theorem ty_54_335 : blksz Tryz.prog 54 = some 3 := by kernel_rfl
@[go_sem] theorem ty_54_336 : tplaces Tryz.prog 54 = some [(0, 2), (2, 1)] := by kernel_rfl
@[go_sem] theorem ty_54_337 : structK Tryz.prog 54 = some [0, 2, 2] := by kernel_rfl
@[go_sem] theorem ty_54_338 : tfield Tryz.prog 54 0 = some (0, 53) := by kernel_rfl
@[go_sem] theorem ty_54_339 : tfield Tryz.prog 54 1 = some (2, 51) := by kernel_rfl
@[go_sem] theorem ty_55_340 : tsz Tryz.prog 55 = some 3 := by kernel_rfl
@[go_sem] theorem ty_55_341 : tbytes Tryz.prog 55 = some 40 := by kernel_rfl
@[go_sem] theorem ty_55_342 : tzero Tryz.prog 55 = some [.bool false, .string ByteArray.empty, .string ByteArray.empty] := by kernel_rfl
@[go_sem] theorem ty_55_343 : tagg Tryz.prog 55 = some true := by kernel_rfl
@[go_sem] theorem ty_55_344 : tarr Tryz.prog 55 = none := by kernel_rfl
@[go_sem] theorem ty_55_345 : blksz Tryz.prog 55 = some 3 := by kernel_rfl
@[go_sem] theorem ty_55_346 : tplaces Tryz.prog 55 = some [(0, 2), (2, 1)] := by kernel_rfl
@[go_sem] theorem ty_55_347 : structK Tryz.prog 55 = some [0, 2, 2] := by kernel_rfl
@[go_sem] theorem ty_55_348 : tfield Tryz.prog 55 0 = some (0, 53) := by kernel_rfl
@[go_sem] theorem ty_55_349 : tfield Tryz.prog 55 1 = some (2, 51) := by kernel_rfl
@[go_sem] theorem ty_56_350 : tsz Tryz.prog 56 = some 1 := by kernel_rfl
@[go_sem] theorem ty_56_351 : tbytes Tryz.prog 56 = some 8 := by kernel_rfl
@[go_sem] theorem ty_56_352 : tzero Tryz.prog 56 = some [.nilFunc] := by kernel_rfl
@[go_sem] theorem ty_56_353 : tagg Tryz.prog 56 = some false := by kernel_rfl
@[go_sem] theorem ty_56_354 : blksz Tryz.prog 56 = some 1 := by kernel_rfl
@[go_sem] theorem ty_57_355 : tsz Tryz.prog 57 = some 2 := by kernel_rfl
@[go_sem] theorem ty_57_356 : tbytes Tryz.prog 57 = some 2 := by kernel_rfl
@[go_sem] theorem ty_57_357 : tzero Tryz.prog 57 = some [.int .u8 0, .int .u8 0] := by kernel_rfl
@[go_sem] theorem ty_57_358 : tagg Tryz.prog 57 = some true := by kernel_rfl
@[go_sem] theorem ty_57_359 : tarr Tryz.prog 57 = none := by kernel_rfl
@[go_sem] theorem ty_57_360 : blksz Tryz.prog 57 = some 2 := by kernel_rfl
@[go_sem] theorem ty_57_361 : tplaces Tryz.prog 57 = some [(0, 1), (1, 1)] := by kernel_rfl
@[go_sem] theorem ty_57_362 : structK Tryz.prog 57 = some [1, 1] := by kernel_rfl
@[go_sem] theorem ty_57_363 : tfield Tryz.prog 57 0 = some (0, 5) := by kernel_rfl
@[go_sem] theorem ty_57_364 : tfield Tryz.prog 57 1 = some (1, 5) := by kernel_rfl
@[go_sem] theorem ty_58_365 : tsz Tryz.prog 58 = some 2 := by kernel_rfl
@[go_sem] theorem ty_58_366 : tbytes Tryz.prog 58 = some 2 := by kernel_rfl
@[go_sem] theorem ty_58_367 : tzero Tryz.prog 58 = some [.int .u8 0, .int .u8 0] := by kernel_rfl
@[go_sem] theorem ty_58_368 : tagg Tryz.prog 58 = some true := by kernel_rfl
@[go_sem] theorem ty_58_369 : tarr Tryz.prog 58 = none := by kernel_rfl
@[go_sem] theorem ty_58_370 : blksz Tryz.prog 58 = some 2 := by kernel_rfl
@[go_sem] theorem ty_58_371 : tplaces Tryz.prog 58 = some [(0, 1), (1, 1)] := by kernel_rfl
@[go_sem] theorem ty_58_372 : structK Tryz.prog 58 = some [1, 1] := by kernel_rfl
@[go_sem] theorem ty_58_373 : tfield Tryz.prog 58 0 = some (0, 5) := by kernel_rfl
@[go_sem] theorem ty_58_374 : tfield Tryz.prog 58 1 = some (1, 5) := by kernel_rfl
@[go_sem] theorem ty_59_375 : tsz Tryz.prog 59 = some 1 := by kernel_rfl
@[go_sem] theorem ty_59_376 : tbytes Tryz.prog 59 = some 24 := by kernel_rfl
@[go_sem] theorem ty_59_377 : tzero Tryz.prog 59 = some [.slice none 0 0] := by kernel_rfl
@[go_sem] theorem ty_59_378 : tagg Tryz.prog 59 = some false := by kernel_rfl
@[go_sem] theorem ty_59_379 : telem Tryz.prog 59 = some 65 := by kernel_rfl
@[go_sem] theorem ty_59_380 : tstr Tryz.prog 59 = false := by kernel_rfl
@[go_sem] theorem ty_59_381 : blksz Tryz.prog 59 = some 1 := by kernel_rfl
@[go_sem] theorem ty_60_382 : tsz Tryz.prog 60 = some 1 := by kernel_rfl
@[go_sem] theorem ty_60_383 : tbytes Tryz.prog 60 = some 0 := by kernel_rfl
@[go_sem] theorem ty_60_384 : tagg Tryz.prog 60 = some false := by kernel_rfl
@[go_sem] theorem ty_60_385 : blksz Tryz.prog 60 = some 1 := by kernel_rfl
@[go_sem] theorem ty_61_386 : tsz Tryz.prog 61 = some 1 := by kernel_rfl
@[go_sem] theorem ty_61_387 : tbytes Tryz.prog 61 = some 8 := by kernel_rfl
@[go_sem] theorem ty_61_388 : tzero Tryz.prog 61 = some [.nilFunc] := by kernel_rfl
@[go_sem] theorem ty_61_389 : tagg Tryz.prog 61 = some false := by kernel_rfl
@[go_sem] theorem ty_61_390 : blksz Tryz.prog 61 = some 1 := by kernel_rfl
@[go_sem] theorem ty_62_391 : tsz Tryz.prog 62 = some 1 := by kernel_rfl
@[go_sem] theorem ty_62_392 : tbytes Tryz.prog 62 = some 24 := by kernel_rfl
@[go_sem] theorem ty_62_393 : tzero Tryz.prog 62 = some [.slice none 0 0] := by kernel_rfl
@[go_sem] theorem ty_62_394 : tagg Tryz.prog 62 = some false := by kernel_rfl
@[go_sem] theorem ty_62_395 : telem Tryz.prog 62 = some 23 := by kernel_rfl
@[go_sem] theorem ty_62_396 : tstr Tryz.prog 62 = false := by kernel_rfl
@[go_sem] theorem ty_62_397 : blksz Tryz.prog 62 = some 1 := by kernel_rfl
@[go_sem] theorem ty_63_398 : tsz Tryz.prog 63 = some 1 := by kernel_rfl
@[go_sem] theorem ty_63_399 : tbytes Tryz.prog 63 = some 0 := by kernel_rfl
@[go_sem] theorem ty_63_400 : tagg Tryz.prog 63 = some false := by kernel_rfl
@[go_sem] theorem ty_63_401 : blksz Tryz.prog 63 = some 1 := by kernel_rfl
@[go_sem] theorem ty_64_402 : tsz Tryz.prog 64 = some 1 := by kernel_rfl
@[go_sem] theorem ty_64_403 : tbytes Tryz.prog 64 = some 8 := by kernel_rfl
@[go_sem] theorem ty_64_404 : tzero Tryz.prog 64 = some [.nilFunc] := by kernel_rfl
@[go_sem] theorem ty_64_405 : tagg Tryz.prog 64 = some false := by kernel_rfl
@[go_sem] theorem ty_64_406 : blksz Tryz.prog 64 = some 1 := by kernel_rfl
@[go_sem] theorem ty_65_407 : tsz Tryz.prog 65 = some 1 := by kernel_rfl
@[go_sem] theorem ty_65_408 : tbytes Tryz.prog 65 = some 1 := by kernel_rfl
@[go_sem] theorem ty_65_409 : tzero Tryz.prog 65 = some [.int .i8 0] := by kernel_rfl
@[go_sem] theorem ty_65_410 : tagg Tryz.prog 65 = some false := by kernel_rfl
@[go_sem] theorem ty_65_411 : tint Tryz.prog 65 = some .i8 := by kernel_rfl
@[go_sem] theorem ty_65_412 : blksz Tryz.prog 65 = some 1 := by kernel_rfl
@[go_sem] theorem ty_66_413 : tsz Tryz.prog 66 = some 1 := by kernel_rfl
@[go_sem] theorem ty_66_414 : tbytes Tryz.prog 66 = some 8 := by kernel_rfl
@[go_sem] theorem ty_66_415 : tzero Tryz.prog 66 = some [.nilFunc] := by kernel_rfl
@[go_sem] theorem ty_66_416 : tagg Tryz.prog 66 = some false := by kernel_rfl
@[go_sem] theorem ty_66_417 : blksz Tryz.prog 66 = some 1 := by kernel_rfl
@[go_sem] theorem ty_67_418 : tsz Tryz.prog 67 = some 1 := by kernel_rfl
@[go_sem] theorem ty_67_419 : tbytes Tryz.prog 67 = some 8 := by kernel_rfl
@[go_sem] theorem ty_67_420 : tzero Tryz.prog 67 = some [.nilFunc] := by kernel_rfl
@[go_sem] theorem ty_67_421 : tagg Tryz.prog 67 = some false := by kernel_rfl
@[go_sem] theorem ty_67_422 : blksz Tryz.prog 67 = some 1 := by kernel_rfl
@[go_sem] theorem ty_68_423 : tsz Tryz.prog 68 = some 1 := by kernel_rfl
@[go_sem] theorem ty_68_424 : tbytes Tryz.prog 68 = some 8 := by kernel_rfl
@[go_sem] theorem ty_68_425 : tzero Tryz.prog 68 = some [.nilFunc] := by kernel_rfl
@[go_sem] theorem ty_68_426 : tagg Tryz.prog 68 = some false := by kernel_rfl
@[go_sem] theorem ty_68_427 : blksz Tryz.prog 68 = some 1 := by kernel_rfl
@[go_sem] theorem ty_69_428 : tsz Tryz.prog 69 = some 1 := by kernel_rfl
@[go_sem] theorem ty_69_429 : tbytes Tryz.prog 69 = some 8 := by kernel_rfl
@[go_sem] theorem ty_69_430 : tzero Tryz.prog 69 = some [.nilFunc] := by kernel_rfl
@[go_sem] theorem ty_69_431 : tagg Tryz.prog 69 = some false := by kernel_rfl
@[go_sem] theorem ty_69_432 : blksz Tryz.prog 69 = some 1 := by kernel_rfl
@[go_sem] theorem ty_70_433 : tsz Tryz.prog 70 = some 1 := by kernel_rfl
@[go_sem] theorem ty_70_434 : tbytes Tryz.prog 70 = some 8 := by kernel_rfl
@[go_sem] theorem ty_70_435 : tzero Tryz.prog 70 = some [.nilFunc] := by kernel_rfl
@[go_sem] theorem ty_70_436 : tagg Tryz.prog 70 = some false := by kernel_rfl
@[go_sem] theorem ty_70_437 : blksz Tryz.prog 70 = some 1 := by kernel_rfl
@[go_sem] theorem ty_71_438 : tsz Tryz.prog 71 = some 1 := by kernel_rfl
@[go_sem] theorem ty_71_439 : tbytes Tryz.prog 71 = some 24 := by kernel_rfl
@[go_sem] theorem ty_71_440 : tzero Tryz.prog 71 = some [.slice none 0 0] := by kernel_rfl
@[go_sem] theorem ty_71_441 : tagg Tryz.prog 71 = some false := by kernel_rfl
@[go_sem] theorem ty_71_442 : telem Tryz.prog 71 = some 3 := by kernel_rfl
@[go_sem] theorem ty_71_443 : tstr Tryz.prog 71 = false := by kernel_rfl
@[go_sem] theorem ty_71_444 : blksz Tryz.prog 71 = some 1 := by kernel_rfl
@[go_sem] theorem ty_72_445 : tsz Tryz.prog 72 = some 1 := by kernel_rfl
@[go_sem] theorem ty_72_446 : tbytes Tryz.prog 72 = some 0 := by kernel_rfl
@[go_sem] theorem ty_72_447 : tagg Tryz.prog 72 = some false := by kernel_rfl
@[go_sem] theorem ty_72_448 : blksz Tryz.prog 72 = some 1 := by kernel_rfl
@[go_sem] theorem ty_73_449 : tsz Tryz.prog 73 = some 1 := by kernel_rfl
@[go_sem] theorem ty_73_450 : tbytes Tryz.prog 73 = some 8 := by kernel_rfl
@[go_sem] theorem ty_73_451 : tzero Tryz.prog 73 = some [.nilFunc] := by kernel_rfl
@[go_sem] theorem ty_73_452 : tagg Tryz.prog 73 = some false := by kernel_rfl
@[go_sem] theorem ty_73_453 : blksz Tryz.prog 73 = some 1 := by kernel_rfl
@[go_sem] theorem ty_74_454 : tsz Tryz.prog 74 = some 1 := by kernel_rfl
@[go_sem] theorem ty_74_455 : tbytes Tryz.prog 74 = some 8 := by kernel_rfl
@[go_sem] theorem ty_74_456 : tzero Tryz.prog 74 = some [.nilFunc] := by kernel_rfl
@[go_sem] theorem ty_74_457 : tagg Tryz.prog 74 = some false := by kernel_rfl
@[go_sem] theorem ty_74_458 : blksz Tryz.prog 74 = some 1 := by kernel_rfl
@[go_sem] theorem ty_75_459 : tsz Tryz.prog 75 = some 1 := by kernel_rfl
@[go_sem] theorem ty_75_460 : tbytes Tryz.prog 75 = some 8 := by kernel_rfl
@[go_sem] theorem ty_75_461 : tzero Tryz.prog 75 = some [.nilFunc] := by kernel_rfl
@[go_sem] theorem ty_75_462 : tagg Tryz.prog 75 = some false := by kernel_rfl
@[go_sem] theorem ty_75_463 : blksz Tryz.prog 75 = some 1 := by kernel_rfl
@[go_sem] theorem ty_76_464 : tsz Tryz.prog 76 = some 1 := by kernel_rfl
@[go_sem] theorem ty_76_465 : tbytes Tryz.prog 76 = some 8 := by kernel_rfl
@[go_sem] theorem ty_76_466 : tzero Tryz.prog 76 = some [.nilFunc] := by kernel_rfl
@[go_sem] theorem ty_76_467 : tagg Tryz.prog 76 = some false := by kernel_rfl
@[go_sem] theorem ty_76_468 : blksz Tryz.prog 76 = some 1 := by kernel_rfl
@[go_sem] theorem ty_77_469 : tsz Tryz.prog 77 = some 1 := by kernel_rfl
@[go_sem] theorem ty_77_470 : tbytes Tryz.prog 77 = some 8 := by kernel_rfl
@[go_sem] theorem ty_77_471 : tzero Tryz.prog 77 = some [.nilFunc] := by kernel_rfl
@[go_sem] theorem ty_77_472 : tagg Tryz.prog 77 = some false := by kernel_rfl
@[go_sem] theorem ty_77_473 : blksz Tryz.prog 77 = some 1 := by kernel_rfl
@[go_sem] theorem ty_78_474 : tsz Tryz.prog 78 = some 1 := by kernel_rfl
@[go_sem] theorem ty_78_475 : tbytes Tryz.prog 78 = some 8 := by kernel_rfl
@[go_sem] theorem ty_78_476 : tzero Tryz.prog 78 = some [.nilFunc] := by kernel_rfl
@[go_sem] theorem ty_78_477 : tagg Tryz.prog 78 = some false := by kernel_rfl
@[go_sem] theorem ty_78_478 : blksz Tryz.prog 78 = some 1 := by kernel_rfl
@[go_sem] theorem ty_79_479 : tsz Tryz.prog 79 = some 1 := by kernel_rfl
@[go_sem] theorem ty_79_480 : tbytes Tryz.prog 79 = some 8 := by kernel_rfl
@[go_sem] theorem ty_79_481 : tzero Tryz.prog 79 = some [.nilFunc] := by kernel_rfl
@[go_sem] theorem ty_79_482 : tagg Tryz.prog 79 = some false := by kernel_rfl
@[go_sem] theorem ty_79_483 : blksz Tryz.prog 79 = some 1 := by kernel_rfl
@[go_sem] theorem ty_80_484 : tsz Tryz.prog 80 = some 1 := by kernel_rfl
@[go_sem] theorem ty_80_485 : tbytes Tryz.prog 80 = some 8 := by kernel_rfl
@[go_sem] theorem ty_80_486 : tzero Tryz.prog 80 = some [.nilFunc] := by kernel_rfl
@[go_sem] theorem ty_80_487 : tagg Tryz.prog 80 = some false := by kernel_rfl
@[go_sem] theorem ty_80_488 : blksz Tryz.prog 80 = some 1 := by kernel_rfl
@[go_sem] theorem ty_81_489 : tsz Tryz.prog 81 = some 1 := by kernel_rfl
@[go_sem] theorem ty_81_490 : tbytes Tryz.prog 81 = some 8 := by kernel_rfl
@[go_sem] theorem ty_81_491 : tzero Tryz.prog 81 = some [.nilFunc] := by kernel_rfl
@[go_sem] theorem ty_81_492 : tagg Tryz.prog 81 = some false := by kernel_rfl
@[go_sem] theorem ty_81_493 : blksz Tryz.prog 81 = some 1 := by kernel_rfl
@[go_sem] theorem ty_82_494 : tsz Tryz.prog 82 = some 1 := by kernel_rfl
@[go_sem] theorem ty_82_495 : tbytes Tryz.prog 82 = some 8 := by kernel_rfl
@[go_sem] theorem ty_82_496 : tzero Tryz.prog 82 = some [.nilFunc] := by kernel_rfl
@[go_sem] theorem ty_82_497 : tagg Tryz.prog 82 = some false := by kernel_rfl
@[go_sem] theorem ty_82_498 : blksz Tryz.prog 82 = some 1 := by kernel_rfl
@[go_sem] theorem ty_83_499 : tsz Tryz.prog 83 = some 1 := by kernel_rfl
@[go_sem] theorem ty_83_500 : tbytes Tryz.prog 83 = some 8 := by kernel_rfl
@[go_sem] theorem ty_83_501 : tzero Tryz.prog 83 = some [.nilFunc] := by kernel_rfl
@[go_sem] theorem ty_83_502 : tagg Tryz.prog 83 = some false := by kernel_rfl
@[go_sem] theorem ty_83_503 : blksz Tryz.prog 83 = some 1 := by kernel_rfl
@[go_sem] theorem ty_84_504 : tsz Tryz.prog 84 = some 1 := by kernel_rfl
@[go_sem] theorem ty_84_505 : tbytes Tryz.prog 84 = some 8 := by kernel_rfl
@[go_sem] theorem ty_84_506 : tzero Tryz.prog 84 = some [.nilFunc] := by kernel_rfl
@[go_sem] theorem ty_84_507 : tagg Tryz.prog 84 = some false := by kernel_rfl
@[go_sem] theorem ty_84_508 : blksz Tryz.prog 84 = some 1 := by kernel_rfl
@[go_sem] theorem ty_85_509 : tsz Tryz.prog 85 = some 1 := by kernel_rfl
@[go_sem] theorem ty_85_510 : tbytes Tryz.prog 85 = some 8 := by kernel_rfl
@[go_sem] theorem ty_85_511 : tzero Tryz.prog 85 = some [.nilFunc] := by kernel_rfl
@[go_sem] theorem ty_85_512 : tagg Tryz.prog 85 = some false := by kernel_rfl
@[go_sem] theorem ty_85_513 : blksz Tryz.prog 85 = some 1 := by kernel_rfl
@[go_sem] theorem ty_86_514 : tsz Tryz.prog 86 = some 1 := by kernel_rfl
@[go_sem] theorem ty_86_515 : tbytes Tryz.prog 86 = some 8 := by kernel_rfl
@[go_sem] theorem ty_86_516 : tzero Tryz.prog 86 = some [.nilFunc] := by kernel_rfl
@[go_sem] theorem ty_86_517 : tagg Tryz.prog 86 = some false := by kernel_rfl
@[go_sem] theorem ty_86_518 : blksz Tryz.prog 86 = some 1 := by kernel_rfl
@[go_sem] theorem ty_87_519 : tsz Tryz.prog 87 = some 1 := by kernel_rfl
@[go_sem] theorem ty_87_520 : tbytes Tryz.prog 87 = some 8 := by kernel_rfl
@[go_sem] theorem ty_87_521 : tzero Tryz.prog 87 = some [.nilFunc] := by kernel_rfl
@[go_sem] theorem ty_87_522 : tagg Tryz.prog 87 = some false := by kernel_rfl
@[go_sem] theorem ty_87_523 : blksz Tryz.prog 87 = some 1 := by kernel_rfl
@[go_sem] theorem ty_88_524 : tsz Tryz.prog 88 = some 1 := by kernel_rfl
@[go_sem] theorem ty_88_525 : tbytes Tryz.prog 88 = some 8 := by kernel_rfl
@[go_sem] theorem ty_88_526 : tzero Tryz.prog 88 = some [.nilFunc] := by kernel_rfl
@[go_sem] theorem ty_88_527 : tagg Tryz.prog 88 = some false := by kernel_rfl
@[go_sem] theorem ty_88_528 : blksz Tryz.prog 88 = some 1 := by kernel_rfl
@[go_sem] theorem ty_89_529 : tsz Tryz.prog 89 = some 1 := by kernel_rfl
@[go_sem] theorem ty_89_530 : tbytes Tryz.prog 89 = some 8 := by kernel_rfl
@[go_sem] theorem ty_89_531 : tzero Tryz.prog 89 = some [.nilFunc] := by kernel_rfl
@[go_sem] theorem ty_89_532 : tagg Tryz.prog 89 = some false := by kernel_rfl
@[go_sem] theorem ty_89_533 : blksz Tryz.prog 89 = some 1 := by kernel_rfl
@[go_sem] theorem ty_90_534 : tsz Tryz.prog 90 = some 1 := by kernel_rfl
@[go_sem] theorem ty_90_535 : tbytes Tryz.prog 90 = some 8 := by kernel_rfl
@[go_sem] theorem ty_90_536 : tzero Tryz.prog 90 = some [.nilFunc] := by kernel_rfl
@[go_sem] theorem ty_90_537 : tagg Tryz.prog 90 = some false := by kernel_rfl
@[go_sem] theorem ty_90_538 : blksz Tryz.prog 90 = some 1 := by kernel_rfl
@[go_sem] theorem ty_91_539 : tsz Tryz.prog 91 = some 1 := by kernel_rfl
@[go_sem] theorem ty_91_540 : tbytes Tryz.prog 91 = some 8 := by kernel_rfl
@[go_sem] theorem ty_91_541 : tzero Tryz.prog 91 = some [.nilFunc] := by kernel_rfl
@[go_sem] theorem ty_91_542 : tagg Tryz.prog 91 = some false := by kernel_rfl
@[go_sem] theorem ty_91_543 : blksz Tryz.prog 91 = some 1 := by kernel_rfl
@[go_sem] theorem ty_92_544 : tsz Tryz.prog 92 = some 1 := by kernel_rfl
@[go_sem] theorem ty_92_545 : tbytes Tryz.prog 92 = some 8 := by kernel_rfl
@[go_sem] theorem ty_92_546 : tzero Tryz.prog 92 = some [.nilFunc] := by kernel_rfl
@[go_sem] theorem ty_92_547 : tagg Tryz.prog 92 = some false := by kernel_rfl
@[go_sem] theorem ty_92_548 : blksz Tryz.prog 92 = some 1 := by kernel_rfl
@[go_sem] theorem ty_93_549 : tsz Tryz.prog 93 = some 1 := by kernel_rfl
@[go_sem] theorem ty_93_550 : tbytes Tryz.prog 93 = some 0 := by kernel_rfl
@[go_sem] theorem ty_93_551 : tagg Tryz.prog 93 = some false := by kernel_rfl
@[go_sem] theorem ty_93_552 : blksz Tryz.prog 93 = some 1 := by kernel_rfl
@[go_sem] theorem ty_94_553 : tsz Tryz.prog 94 = some 1 := by kernel_rfl
@[go_sem] theorem ty_94_554 : tbytes Tryz.prog 94 = some 8 := by kernel_rfl
@[go_sem] theorem ty_94_555 : tzero Tryz.prog 94 = some [.nilFunc] := by kernel_rfl
@[go_sem] theorem ty_94_556 : tagg Tryz.prog 94 = some false := by kernel_rfl
@[go_sem] theorem ty_94_557 : blksz Tryz.prog 94 = some 1 := by kernel_rfl
@[go_sem] theorem ty_95_558 : tsz Tryz.prog 95 = some 1 := by kernel_rfl
@[go_sem] theorem ty_95_559 : tbytes Tryz.prog 95 = some 8 := by kernel_rfl
@[go_sem] theorem ty_95_560 : tzero Tryz.prog 95 = some [.nilFunc] := by kernel_rfl
@[go_sem] theorem ty_95_561 : tagg Tryz.prog 95 = some false := by kernel_rfl
@[go_sem] theorem ty_95_562 : blksz Tryz.prog 95 = some 1 := by kernel_rfl
@[go_sem] theorem ty_96_563 : tsz Tryz.prog 96 = some 1 := by kernel_rfl
@[go_sem] theorem ty_96_564 : tbytes Tryz.prog 96 = some 8 := by kernel_rfl
@[go_sem] theorem ty_96_565 : tzero Tryz.prog 96 = some [.nilFunc] := by kernel_rfl
@[go_sem] theorem ty_96_566 : tagg Tryz.prog 96 = some false := by kernel_rfl
@[go_sem] theorem ty_96_567 : blksz Tryz.prog 96 = some 1 := by kernel_rfl
@[go_sem] theorem ty_97_568 : tsz Tryz.prog 97 = some 1 := by kernel_rfl
@[go_sem] theorem ty_97_569 : tbytes Tryz.prog 97 = some 8 := by kernel_rfl
@[go_sem] theorem ty_97_570 : tzero Tryz.prog 97 = some [.nilFunc] := by kernel_rfl
@[go_sem] theorem ty_97_571 : tagg Tryz.prog 97 = some false := by kernel_rfl
@[go_sem] theorem ty_97_572 : blksz Tryz.prog 97 = some 1 := by kernel_rfl
@[go_sem] theorem ty_98_573 : tsz Tryz.prog 98 = some 1 := by kernel_rfl
@[go_sem] theorem ty_98_574 : tbytes Tryz.prog 98 = some 8 := by kernel_rfl
@[go_sem] theorem ty_98_575 : tzero Tryz.prog 98 = some [.nilFunc] := by kernel_rfl
@[go_sem] theorem ty_98_576 : tagg Tryz.prog 98 = some false := by kernel_rfl
@[go_sem] theorem ty_98_577 : blksz Tryz.prog 98 = some 1 := by kernel_rfl
@[go_sem] theorem ty_99_578 : tsz Tryz.prog 99 = some 1 := by kernel_rfl
@[go_sem] theorem ty_99_579 : tbytes Tryz.prog 99 = some 8 := by kernel_rfl
@[go_sem] theorem ty_99_580 : tzero Tryz.prog 99 = some [.nilFunc] := by kernel_rfl
@[go_sem] theorem ty_99_581 : tagg Tryz.prog 99 = some false := by kernel_rfl
@[go_sem] theorem ty_99_582 : blksz Tryz.prog 99 = some 1 := by kernel_rfl
@[go_sem] theorem ty_100_583 : tsz Tryz.prog 100 = some 1 := by kernel_rfl
@[go_sem] theorem ty_100_584 : tbytes Tryz.prog 100 = some 8 := by kernel_rfl
@[go_sem] theorem ty_100_585 : tzero Tryz.prog 100 = some [.nilFunc] := by kernel_rfl
@[go_sem] theorem ty_100_586 : tagg Tryz.prog 100 = some false := by kernel_rfl
@[go_sem] theorem ty_100_587 : blksz Tryz.prog 100 = some 1 := by kernel_rfl
@[go_sem] theorem ty_101_588 : tsz Tryz.prog 101 = some 1 := by kernel_rfl
@[go_sem] theorem ty_101_589 : tbytes Tryz.prog 101 = some 8 := by kernel_rfl
@[go_sem] theorem ty_101_590 : tzero Tryz.prog 101 = some [.nilFunc] := by kernel_rfl
@[go_sem] theorem ty_101_591 : tagg Tryz.prog 101 = some false := by kernel_rfl
@[go_sem] theorem ty_101_592 : blksz Tryz.prog 101 = some 1 := by kernel_rfl
@[go_sem] theorem ty_102_593 : tsz Tryz.prog 102 = some 1 := by kernel_rfl
@[go_sem] theorem ty_102_594 : tbytes Tryz.prog 102 = some 8 := by kernel_rfl
@[go_sem] theorem ty_102_595 : tzero Tryz.prog 102 = some [.nilFunc] := by kernel_rfl
@[go_sem] theorem ty_102_596 : tagg Tryz.prog 102 = some false := by kernel_rfl
@[go_sem] theorem ty_102_597 : blksz Tryz.prog 102 = some 1 := by kernel_rfl
@[go_sem] theorem ty_103_598 : tsz Tryz.prog 103 = some 1 := by kernel_rfl
@[go_sem] theorem ty_103_599 : tbytes Tryz.prog 103 = some 8 := by kernel_rfl
@[go_sem] theorem ty_103_600 : tzero Tryz.prog 103 = some [.nilFunc] := by kernel_rfl
@[go_sem] theorem ty_103_601 : tagg Tryz.prog 103 = some false := by kernel_rfl
@[go_sem] theorem ty_103_602 : blksz Tryz.prog 103 = some 1 := by kernel_rfl
@[go_sem] theorem ty_104_603 : tsz Tryz.prog 104 = some 1 := by kernel_rfl
@[go_sem] theorem ty_104_604 : tbytes Tryz.prog 104 = some 8 := by kernel_rfl
@[go_sem] theorem ty_104_605 : tzero Tryz.prog 104 = some [.nilFunc] := by kernel_rfl
@[go_sem] theorem ty_104_606 : tagg Tryz.prog 104 = some false := by kernel_rfl
@[go_sem] theorem ty_104_607 : blksz Tryz.prog 104 = some 1 := by kernel_rfl
@[go_sem] theorem ty_105_608 : tsz Tryz.prog 105 = some 1 := by kernel_rfl
@[go_sem] theorem ty_105_609 : tbytes Tryz.prog 105 = some 8 := by kernel_rfl
@[go_sem] theorem ty_105_610 : tzero Tryz.prog 105 = some [.nilFunc] := by kernel_rfl
@[go_sem] theorem ty_105_611 : tagg Tryz.prog 105 = some false := by kernel_rfl
@[go_sem] theorem ty_105_612 : blksz Tryz.prog 105 = some 1 := by kernel_rfl
@[go_sem] theorem ty_106_613 : tsz Tryz.prog 106 = some 1 := by kernel_rfl
@[go_sem] theorem ty_106_614 : tbytes Tryz.prog 106 = some 8 := by kernel_rfl
@[go_sem] theorem ty_106_615 : tzero Tryz.prog 106 = some [.nilFunc] := by kernel_rfl
@[go_sem] theorem ty_106_616 : tagg Tryz.prog 106 = some false := by kernel_rfl
@[go_sem] theorem ty_106_617 : blksz Tryz.prog 106 = some 1 := by kernel_rfl
@[go_sem] theorem ty_107_618 : tsz Tryz.prog 107 = some 1 := by kernel_rfl
@[go_sem] theorem ty_107_619 : tbytes Tryz.prog 107 = some 8 := by kernel_rfl
@[go_sem] theorem ty_107_620 : tzero Tryz.prog 107 = some [.nilFunc] := by kernel_rfl
@[go_sem] theorem ty_107_621 : tagg Tryz.prog 107 = some false := by kernel_rfl
@[go_sem] theorem ty_107_622 : blksz Tryz.prog 107 = some 1 := by kernel_rfl
@[go_sem] theorem ty_108_623 : tsz Tryz.prog 108 = some 1 := by kernel_rfl
@[go_sem] theorem ty_108_624 : tbytes Tryz.prog 108 = some 8 := by kernel_rfl
@[go_sem] theorem ty_108_625 : tzero Tryz.prog 108 = some [.nilFunc] := by kernel_rfl
@[go_sem] theorem ty_108_626 : tagg Tryz.prog 108 = some false := by kernel_rfl
@[go_sem] theorem ty_108_627 : blksz Tryz.prog 108 = some 1 := by kernel_rfl
@[go_sem] theorem ty_109_628 : tsz Tryz.prog 109 = some 24 := by kernel_rfl
@[go_sem] theorem ty_109_629 : tbytes Tryz.prog 109 = some 24 := by kernel_rfl
@[go_sem] theorem ty_109_630 : tzero Tryz.prog 109 = some [.bool false, .bool false, .bool false, .bool false, .bool false, .bool false, .bool false, .bool false, .bool false, .bool false, .bool false, .bool false, .bool false, .bool false, .bool false, .bool false, .bool false, .bool false, .bool false, .bool false, .bool false, .bool false, .bool false, .bool false] := by kernel_rfl
@[go_sem] theorem ty_109_631 : tagg Tryz.prog 109 = some true := by kernel_rfl
@[go_sem] theorem ty_109_632 : tarr Tryz.prog 109 = some (24, 4) := by kernel_rfl
@[go_sem] theorem ty_109_633 : blksz Tryz.prog 109 = some 1 := by kernel_rfl
@[go_sem] theorem ty_109_634 : tplaces Tryz.prog 109 = none := by kernel_rfl
@[go_sem] theorem ty_110_635 : tsz Tryz.prog 110 = some 1 := by kernel_rfl
@[go_sem] theorem ty_110_636 : tbytes Tryz.prog 110 = some 8 := by kernel_rfl
@[go_sem] theorem ty_110_637 : tzero Tryz.prog 110 = some [.nilFunc] := by kernel_rfl
@[go_sem] theorem ty_110_638 : tagg Tryz.prog 110 = some false := by kernel_rfl
@[go_sem] theorem ty_110_639 : blksz Tryz.prog 110 = some 1 := by kernel_rfl
@[go_sem] theorem ty_111_640 : tsz Tryz.prog 111 = some 1 := by kernel_rfl
@[go_sem] theorem ty_111_641 : tbytes Tryz.prog 111 = some 8 := by kernel_rfl
@[go_sem] theorem ty_111_642 : tzero Tryz.prog 111 = some [.nilFunc] := by kernel_rfl
@[go_sem] theorem ty_111_643 : tagg Tryz.prog 111 = some false := by kernel_rfl
@[go_sem] theorem ty_111_644 : blksz Tryz.prog 111 = some 1 := by kernel_rfl
@[go_sem] theorem ty_112_645 : tsz Tryz.prog 112 = some 1 := by kernel_rfl
@[go_sem] theorem ty_112_646 : tbytes Tryz.prog 112 = some 0 := by kernel_rfl
@[go_sem] theorem ty_112_647 : tagg Tryz.prog 112 = some false := by kernel_rfl
@[go_sem] theorem ty_112_648 : blksz Tryz.prog 112 = some 1 := by kernel_rfl
@[go_sem] theorem ty_113_649 : tsz Tryz.prog 113 = some 1 := by kernel_rfl
@[go_sem] theorem ty_113_650 : tbytes Tryz.prog 113 = some 8 := by kernel_rfl
@[go_sem] theorem ty_113_651 : tzero Tryz.prog 113 = some [.nilFunc] := by kernel_rfl
@[go_sem] theorem ty_113_652 : tagg Tryz.prog 113 = some false := by kernel_rfl
@[go_sem] theorem ty_113_653 : blksz Tryz.prog 113 = some 1 := by kernel_rfl
@[go_sem] theorem ty_114_654 : tsz Tryz.prog 114 = some 1 := by kernel_rfl
@[go_sem] theorem ty_114_655 : tbytes Tryz.prog 114 = some 8 := by kernel_rfl
@[go_sem] theorem ty_114_656 : tzero Tryz.prog 114 = some [.nilFunc] := by kernel_rfl
@[go_sem] theorem ty_114_657 : tagg Tryz.prog 114 = some false := by kernel_rfl
@[go_sem] theorem ty_114_658 : blksz Tryz.prog 114 = some 1 := by kernel_rfl
@[go_sem] theorem ty_115_659 : tsz Tryz.prog 115 = some 1 := by kernel_rfl
@[go_sem] theorem ty_115_660 : tbytes Tryz.prog 115 = some 8 := by kernel_rfl
@[go_sem] theorem ty_115_661 : tzero Tryz.prog 115 = some [.nilFunc] := by kernel_rfl
@[go_sem] theorem ty_115_662 : tagg Tryz.prog 115 = some false := by kernel_rfl
@[go_sem] theorem ty_115_663 : blksz Tryz.prog 115 = some 1 := by kernel_rfl
@[go_sem] theorem ty_116_664 : tsz Tryz.prog 116 = some 1 := by kernel_rfl
@[go_sem] theorem ty_116_665 : tbytes Tryz.prog 116 = some 8 := by kernel_rfl
@[go_sem] theorem ty_116_666 : tzero Tryz.prog 116 = some [.nilFunc] := by kernel_rfl
@[go_sem] theorem ty_116_667 : tagg Tryz.prog 116 = some false := by kernel_rfl
@[go_sem] theorem ty_116_668 : blksz Tryz.prog 116 = some 1 := by kernel_rfl
@[go_sem] theorem ty_117_669 : tsz Tryz.prog 117 = some 1 := by kernel_rfl
@[go_sem] theorem ty_117_670 : tbytes Tryz.prog 117 = some 8 := by kernel_rfl
@[go_sem] theorem ty_117_671 : tzero Tryz.prog 117 = some [.nilFunc] := by kernel_rfl
@[go_sem] theorem ty_117_672 : tagg Tryz.prog 117 = some false := by kernel_rfl
@[go_sem] theorem ty_117_673 : blksz Tryz.prog 117 = some 1 := by kernel_rfl
@[go_sem] theorem ty_118_674 : tsz Tryz.prog 118 = some 1 := by kernel_rfl
@[go_sem] theorem ty_118_675 : tbytes Tryz.prog 118 = some 8 := by kernel_rfl
@[go_sem] theorem ty_118_676 : tzero Tryz.prog 118 = some [.nilFunc] := by kernel_rfl
@[go_sem] theorem ty_118_677 : tagg Tryz.prog 118 = some false := by kernel_rfl
@[go_sem] theorem ty_118_678 : blksz Tryz.prog 118 = some 1 := by kernel_rfl
@[go_sem] theorem ty_119_679 : tsz Tryz.prog 119 = some 1 := by kernel_rfl
@[go_sem] theorem ty_119_680 : tbytes Tryz.prog 119 = some 0 := by kernel_rfl
@[go_sem] theorem ty_119_681 : tagg Tryz.prog 119 = some false := by kernel_rfl
@[go_sem] theorem ty_119_682 : blksz Tryz.prog 119 = some 1 := by kernel_rfl
@[go_sem] theorem ty_120_683 : tsz Tryz.prog 120 = some 1 := by kernel_rfl
@[go_sem] theorem ty_120_684 : tbytes Tryz.prog 120 = some 8 := by kernel_rfl
@[go_sem] theorem ty_120_685 : tzero Tryz.prog 120 = some [.nilFunc] := by kernel_rfl
@[go_sem] theorem ty_120_686 : tagg Tryz.prog 120 = some false := by kernel_rfl
@[go_sem] theorem ty_120_687 : blksz Tryz.prog 120 = some 1 := by kernel_rfl
@[go_sem] theorem ty_121_688 : tsz Tryz.prog 121 = some 1 := by kernel_rfl
@[go_sem] theorem ty_121_689 : tbytes Tryz.prog 121 = some 8 := by kernel_rfl
@[go_sem] theorem ty_121_690 : tzero Tryz.prog 121 = some [.nilFunc] := by kernel_rfl
@[go_sem] theorem ty_121_691 : tagg Tryz.prog 121 = some false := by kernel_rfl
@[go_sem] theorem ty_121_692 : blksz Tryz.prog 121 = some 1 := by kernel_rfl
@[go_sem] theorem ty_122_693 : tsz Tryz.prog 122 = some 1 := by kernel_rfl
@[go_sem] theorem ty_122_694 : tbytes Tryz.prog 122 = some 8 := by kernel_rfl
@[go_sem] theorem ty_122_695 : tzero Tryz.prog 122 = some [.nilFunc] := by kernel_rfl
@[go_sem] theorem ty_122_696 : tagg Tryz.prog 122 = some false := by kernel_rfl
@[go_sem] theorem ty_122_697 : blksz Tryz.prog 122 = some 1 := by kernel_rfl
@[go_sem] theorem ty_123_698 : tsz Tryz.prog 123 = some 1 := by kernel_rfl
@[go_sem] theorem ty_123_699 : tbytes Tryz.prog 123 = some 8 := by kernel_rfl
@[go_sem] theorem ty_123_700 : tzero Tryz.prog 123 = some [.nilFunc] := by kernel_rfl
@[go_sem] theorem ty_123_701 : tagg Tryz.prog 123 = some false := by kernel_rfl
@[go_sem] theorem ty_123_702 : blksz Tryz.prog 123 = some 1 := by kernel_rfl
@[go_sem] theorem ty_124_703 : tsz Tryz.prog 124 = some 1 := by kernel_rfl
@[go_sem] theorem ty_124_704 : tbytes Tryz.prog 124 = some 8 := by kernel_rfl
@[go_sem] theorem ty_124_705 : tzero Tryz.prog 124 = some [.nilFunc] := by kernel_rfl
@[go_sem] theorem ty_124_706 : tagg Tryz.prog 124 = some false := by kernel_rfl
@[go_sem] theorem ty_124_707 : blksz Tryz.prog 124 = some 1 := by kernel_rfl
@[go_sem] theorem ty_125_708 : tsz Tryz.prog 125 = some 1 := by kernel_rfl
@[go_sem] theorem ty_125_709 : tbytes Tryz.prog 125 = some 0 := by kernel_rfl
@[go_sem] theorem ty_125_710 : tagg Tryz.prog 125 = some false := by kernel_rfl
@[go_sem] theorem ty_125_711 : blksz Tryz.prog 125 = some 1 := by kernel_rfl
@[go_sem] theorem ty_126_712 : tsz Tryz.prog 126 = some 1 := by kernel_rfl
@[go_sem] theorem ty_126_713 : tbytes Tryz.prog 126 = some 8 := by kernel_rfl
@[go_sem] theorem ty_126_714 : tzero Tryz.prog 126 = some [.nilFunc] := by kernel_rfl
@[go_sem] theorem ty_126_715 : tagg Tryz.prog 126 = some false := by kernel_rfl
@[go_sem] theorem ty_126_716 : blksz Tryz.prog 126 = some 1 := by kernel_rfl
@[go_sem] theorem ty_127_717 : tsz Tryz.prog 127 = some 1 := by kernel_rfl
@[go_sem] theorem ty_127_718 : tbytes Tryz.prog 127 = some 0 := by kernel_rfl
@[go_sem] theorem ty_127_719 : tagg Tryz.prog 127 = some false := by kernel_rfl
@[go_sem] theorem ty_127_720 : blksz Tryz.prog 127 = some 1 := by kernel_rfl
@[go_sem] theorem ty_128_721 : tsz Tryz.prog 128 = some 1 := by kernel_rfl
@[go_sem] theorem ty_128_722 : tbytes Tryz.prog 128 = some 8 := by kernel_rfl
@[go_sem] theorem ty_128_723 : tzero Tryz.prog 128 = some [.nilFunc] := by kernel_rfl
@[go_sem] theorem ty_128_724 : tagg Tryz.prog 128 = some false := by kernel_rfl
@[go_sem] theorem ty_128_725 : blksz Tryz.prog 128 = some 1 := by kernel_rfl
@[go_sem] theorem ty_129_726 : tsz Tryz.prog 129 = some 1 := by kernel_rfl
@[go_sem] theorem ty_129_727 : tbytes Tryz.prog 129 = some 0 := by kernel_rfl
@[go_sem] theorem ty_129_728 : tagg Tryz.prog 129 = some false := by kernel_rfl
@[go_sem] theorem ty_129_729 : blksz Tryz.prog 129 = some 1 := by kernel_rfl
@[go_sem] theorem ty_130_730 : tsz Tryz.prog 130 = some 1 := by kernel_rfl
@[go_sem] theorem ty_130_731 : tbytes Tryz.prog 130 = some 8 := by kernel_rfl
@[go_sem] theorem ty_130_732 : tzero Tryz.prog 130 = some [.nilFunc] := by kernel_rfl
@[go_sem] theorem ty_130_733 : tagg Tryz.prog 130 = some false := by kernel_rfl
@[go_sem] theorem ty_130_734 : blksz Tryz.prog 130 = some 1 := by kernel_rfl
@[go_sem] theorem ty_131_735 : tsz Tryz.prog 131 = some 1 := by kernel_rfl
@[go_sem] theorem ty_131_736 : tbytes Tryz.prog 131 = some 8 := by kernel_rfl
@[go_sem] theorem ty_131_737 : tzero Tryz.prog 131 = some [.nilFunc] := by kernel_rfl
@[go_sem] theorem ty_131_738 : tagg Tryz.prog 131 = some false := by kernel_rfl
@[go_sem] theorem ty_131_739 : blksz Tryz.prog 131 = some 1 := by kernel_rfl
@[go_sem] theorem ty_132_740 : tsz Tryz.prog 132 = some 1 := by kernel_rfl
@[go_sem] theorem ty_132_741 : tbytes Tryz.prog 132 = some 8 := by kernel_rfl
@[go_sem] theorem ty_132_742 : tzero Tryz.prog 132 = some [.nilFunc] := by kernel_rfl
@[go_sem] theorem ty_132_743 : tagg Tryz.prog 132 = some false := by kernel_rfl
@[go_sem] theorem ty_132_744 : blksz Tryz.prog 132 = some 1 := by kernel_rfl
@[go_sem] theorem ty_133_745 : tsz Tryz.prog 133 = some 1 := by kernel_rfl
@[go_sem] theorem ty_133_746 : tbytes Tryz.prog 133 = some 8 := by kernel_rfl
@[go_sem] theorem ty_133_747 : tzero Tryz.prog 133 = some [.nilFunc] := by kernel_rfl
@[go_sem] theorem ty_133_748 : tagg Tryz.prog 133 = some false := by kernel_rfl
@[go_sem] theorem ty_133_749 : blksz Tryz.prog 133 = some 1 := by kernel_rfl
@[go_sem] theorem ty_134_750 : tsz Tryz.prog 134 = some 1 := by kernel_rfl
@[go_sem] theorem ty_134_751 : tbytes Tryz.prog 134 = some 8 := by kernel_rfl
@[go_sem] theorem ty_134_752 : tzero Tryz.prog 134 = some [.nilFunc] := by kernel_rfl
@[go_sem] theorem ty_134_753 : tagg Tryz.prog 134 = some false := by kernel_rfl
@[go_sem] theorem ty_134_754 : blksz Tryz.prog 134 = some 1 := by kernel_rfl
@[go_sem] theorem ty_135_755 : tsz Tryz.prog 135 = some 1 := by kernel_rfl
@[go_sem] theorem ty_135_756 : tbytes Tryz.prog 135 = some 8 := by kernel_rfl
@[go_sem] theorem ty_135_757 : tzero Tryz.prog 135 = some [.nilFunc] := by kernel_rfl
@[go_sem] theorem ty_135_758 : tagg Tryz.prog 135 = some false := by kernel_rfl
@[go_sem] theorem ty_135_759 : blksz Tryz.prog 135 = some 1 := by kernel_rfl
@[go_sem] theorem ty_136_760 : tsz Tryz.prog 136 = some 1 := by kernel_rfl
@[go_sem] theorem ty_136_761 : tbytes Tryz.prog 136 = some 8 := by kernel_rfl
@[go_sem] theorem ty_136_762 : tzero Tryz.prog 136 = some [.nilFunc] := by kernel_rfl
@[go_sem] theorem ty_136_763 : tagg Tryz.prog 136 = some false := by kernel_rfl
@[go_sem] theorem ty_136_764 : blksz Tryz.prog 136 = some 1 := by kernel_rfl
@[go_sem] theorem ty_137_765 : tsz Tryz.prog 137 = some 1 := by kernel_rfl
@[go_sem] theorem ty_137_766 : tbytes Tryz.prog 137 = some 8 := by kernel_rfl
@[go_sem] theorem ty_137_767 : tzero Tryz.prog 137 = some [.nilFunc] := by kernel_rfl
@[go_sem] theorem ty_137_768 : tagg Tryz.prog 137 = some false := by kernel_rfl
@[go_sem] theorem ty_137_769 : blksz Tryz.prog 137 = some 1 := by kernel_rfl
@[go_sem] theorem ty_138_770 : tsz Tryz.prog 138 = some 1 := by kernel_rfl
@[go_sem] theorem ty_138_771 : tbytes Tryz.prog 138 = some 8 := by kernel_rfl
@[go_sem] theorem ty_138_772 : tzero Tryz.prog 138 = some [.nilFunc] := by kernel_rfl
@[go_sem] theorem ty_138_773 : tagg Tryz.prog 138 = some false := by kernel_rfl
@[go_sem] theorem ty_138_774 : blksz Tryz.prog 138 = some 1 := by kernel_rfl
@[go_sem] theorem ty_139_775 : tsz Tryz.prog 139 = some 1 := by kernel_rfl
@[go_sem] theorem ty_139_776 : tbytes Tryz.prog 139 = some 8 := by kernel_rfl
@[go_sem] theorem ty_139_777 : tzero Tryz.prog 139 = some [.nilFunc] := by kernel_rfl
@[go_sem] theorem ty_139_778 : tagg Tryz.prog 139 = some false := by kernel_rfl
@[go_sem] theorem ty_139_779 : blksz Tryz.prog 139 = some 1 := by kernel_rfl
@[go_sem] theorem ty_140_780 : tsz Tryz.prog 140 = some 1 := by kernel_rfl
@[go_sem] theorem ty_140_781 : tbytes Tryz.prog 140 = some 8 := by kernel_rfl
@[go_sem] theorem ty_140_782 : tzero Tryz.prog 140 = some [.nilFunc] := by kernel_rfl
@[go_sem] theorem ty_140_783 : tagg Tryz.prog 140 = some false := by kernel_rfl
@[go_sem] theorem ty_140_784 : blksz Tryz.prog 140 = some 1 := by kernel_rfl
@[go_sem] theorem ty_141_785 : tsz Tryz.prog 141 = some 1 := by kernel_rfl
@[go_sem] theorem ty_141_786 : tbytes Tryz.prog 141 = some 0 := by kernel_rfl
@[go_sem] theorem ty_141_787 : tagg Tryz.prog 141 = some false := by kernel_rfl
@[go_sem] theorem ty_141_788 : blksz Tryz.prog 141 = some 1 := by kernel_rfl
@[go_sem] theorem ty_142_789 : tsz Tryz.prog 142 = some 1 := by kernel_rfl
@[go_sem] theorem ty_142_790 : tbytes Tryz.prog 142 = some 8 := by kernel_rfl
@[go_sem] theorem ty_142_791 : tzero Tryz.prog 142 = some [.nilFunc] := by kernel_rfl
@[go_sem] theorem ty_142_792 : tagg Tryz.prog 142 = some false := by kernel_rfl
@[go_sem] theorem ty_142_793 : blksz Tryz.prog 142 = some 1 := by kernel_rfl
@[go_sem] theorem ty_143_794 : tsz Tryz.prog 143 = some 1 := by kernel_rfl
@[go_sem] theorem ty_143_795 : tbytes Tryz.prog 143 = some 8 := by kernel_rfl
@[go_sem] theorem ty_143_796 : tzero Tryz.prog 143 = some [.nilFunc] := by kernel_rfl
@[go_sem] theorem ty_143_797 : tagg Tryz.prog 143 = some false := by kernel_rfl
@[go_sem] theorem ty_143_798 : blksz Tryz.prog 143 = some 1 := by kernel_rfl
@[go_sem] theorem ty_144_799 : tsz Tryz.prog 144 = some 1 := by kernel_rfl
@[go_sem] theorem ty_144_800 : tbytes Tryz.prog 144 = some 8 := by kernel_rfl
@[go_sem] theorem ty_144_801 : tzero Tryz.prog 144 = some [.nilFunc] := by kernel_rfl
@[go_sem] theorem ty_144_802 : tagg Tryz.prog 144 = some false := by kernel_rfl
@[go_sem] theorem ty_144_803 : blksz Tryz.prog 144 = some 1 := by kernel_rfl
@[go_sem] theorem ty_145_804 : tsz Tryz.prog 145 = some 1 := by kernel_rfl
@[go_sem] theorem ty_145_805 : tbytes Tryz.prog 145 = some 8 := by kernel_rfl
@[go_sem] theorem ty_145_806 : tzero Tryz.prog 145 = some [.nilFunc] := by kernel_rfl
@[go_sem] theorem ty_145_807 : tagg Tryz.prog 145 = some false := by kernel_rfl
@[go_sem] theorem ty_145_808 : blksz Tryz.prog 145 = some 1 := by kernel_rfl
@[go_sem] theorem ty_146_809 : tsz Tryz.prog 146 = some 1 := by kernel_rfl
@[go_sem] theorem ty_146_810 : tbytes Tryz.prog 146 = some 8 := by kernel_rfl
@[go_sem] theorem ty_146_811 : tzero Tryz.prog 146 = some [.int .u64 0] := by kernel_rfl
@[go_sem] theorem ty_146_812 : tagg Tryz.prog 146 = some false := by kernel_rfl
@[go_sem] theorem ty_146_813 : tint Tryz.prog 146 = some .u64 := by kernel_rfl
@[go_sem] theorem ty_146_814 : blksz Tryz.prog 146 = some 1 := by kernel_rfl
@[go_sem] theorem ty_147_815 : tsz Tryz.prog 147 = some 1 := by kernel_rfl
@[go_sem] theorem ty_147_816 : tbytes Tryz.prog 147 = some 8 := by kernel_rfl
@[go_sem] theorem ty_147_817 : tzero Tryz.prog 147 = some [.nilFunc] := by kernel_rfl
@[go_sem] theorem ty_147_818 : tagg Tryz.prog 147 = some false := by kernel_rfl
@[go_sem] theorem ty_147_819 : blksz Tryz.prog 147 = some 1 := by kernel_rfl
@[go_sem] theorem ty_148_820 : tsz Tryz.prog 148 = some 1 := by kernel_rfl
@[go_sem] theorem ty_148_821 : tbytes Tryz.prog 148 = some 8 := by kernel_rfl
@[go_sem] theorem ty_148_822 : tzero Tryz.prog 148 = some [.nilFunc] := by kernel_rfl
@[go_sem] theorem ty_148_823 : tagg Tryz.prog 148 = some false := by kernel_rfl
@[go_sem] theorem ty_148_824 : blksz Tryz.prog 148 = some 1 := by kernel_rfl
@[go_sem] theorem ty_149_825 : tsz Tryz.prog 149 = some 1 := by kernel_rfl
@[go_sem] theorem ty_149_826 : tbytes Tryz.prog 149 = some 8 := by kernel_rfl
@[go_sem] theorem ty_149_827 : tzero Tryz.prog 149 = some [.nilFunc] := by kernel_rfl
@[go_sem] theorem ty_149_828 : tagg Tryz.prog 149 = some false := by kernel_rfl
@[go_sem] theorem ty_149_829 : blksz Tryz.prog 149 = some 1 := by kernel_rfl
@[go_sem] theorem ty_150_830 : tsz Tryz.prog 150 = some 1 := by kernel_rfl
@[go_sem] theorem ty_150_831 : tbytes Tryz.prog 150 = some 8 := by kernel_rfl
@[go_sem] theorem ty_150_832 : tzero Tryz.prog 150 = some [.nilFunc] := by kernel_rfl
@[go_sem] theorem ty_150_833 : tagg Tryz.prog 150 = some false := by kernel_rfl
@[go_sem] theorem ty_150_834 : blksz Tryz.prog 150 = some 1 := by kernel_rfl
@[go_sem] theorem ty_151_835 : tsz Tryz.prog 151 = some 1 := by kernel_rfl
@[go_sem] theorem ty_151_836 : tbytes Tryz.prog 151 = some 8 := by kernel_rfl
@[go_sem] theorem ty_151_837 : tzero Tryz.prog 151 = some [.nilFunc] := by kernel_rfl
@[go_sem] theorem ty_151_838 : tagg Tryz.prog 151 = some false := by kernel_rfl
@[go_sem] theorem ty_151_839 : blksz Tryz.prog 151 = some 1 := by kernel_rfl
@[go_sem] theorem ty_152_840 : tsz Tryz.prog 152 = some 1 := by kernel_rfl
@[go_sem] theorem ty_152_841 : tbytes Tryz.prog 152 = some 8 := by kernel_rfl
@[go_sem] theorem ty_152_842 : tzero Tryz.prog 152 = some [.nilFunc] := by kernel_rfl
@[go_sem] theorem ty_152_843 : tagg Tryz.prog 152 = some false := by kernel_rfl
@[go_sem] theorem ty_152_844 : blksz Tryz.prog 152 = some 1 := by kernel_rfl
@[go_sem] theorem ty_153_845 : tsz Tryz.prog 153 = some 1 := by kernel_rfl
@[go_sem] theorem ty_153_846 : tbytes Tryz.prog 153 = some 8 := by kernel_rfl
@[go_sem] theorem ty_153_847 : tzero Tryz.prog 153 = some [.nilFunc] := by kernel_rfl
@[go_sem] theorem ty_153_848 : tagg Tryz.prog 153 = some false := by kernel_rfl
@[go_sem] theorem ty_153_849 : blksz Tryz.prog 153 = some 1 := by kernel_rfl
@[go_sem] theorem ty_154_850 : tsz Tryz.prog 154 = some 1 := by kernel_rfl
@[go_sem] theorem ty_154_851 : tbytes Tryz.prog 154 = some 8 := by kernel_rfl
@[go_sem] theorem ty_154_852 : tzero Tryz.prog 154 = some [.nilFunc] := by kernel_rfl
@[go_sem] theorem ty_154_853 : tagg Tryz.prog 154 = some false := by kernel_rfl
@[go_sem] theorem ty_154_854 : blksz Tryz.prog 154 = some 1 := by kernel_rfl
@[go_sem] theorem ty_155_855 : tsz Tryz.prog 155 = some 1 := by kernel_rfl
@[go_sem] theorem ty_155_856 : tbytes Tryz.prog 155 = some 8 := by kernel_rfl
@[go_sem] theorem ty_155_857 : tzero Tryz.prog 155 = some [.nilFunc] := by kernel_rfl
@[go_sem] theorem ty_155_858 : tagg Tryz.prog 155 = some false := by kernel_rfl
@[go_sem] theorem ty_155_859 : blksz Tryz.prog 155 = some 1 := by kernel_rfl
@[go_sem] theorem ty_156_860 : tsz Tryz.prog 156 = some 1 := by kernel_rfl
@[go_sem] theorem ty_156_861 : tbytes Tryz.prog 156 = some 8 := by kernel_rfl
@[go_sem] theorem ty_156_862 : tzero Tryz.prog 156 = some [.nilFunc] := by kernel_rfl
@[go_sem] theorem ty_156_863 : tagg Tryz.prog 156 = some false := by kernel_rfl
@[go_sem] theorem ty_156_864 : blksz Tryz.prog 156 = some 1 := by kernel_rfl
@[go_sem] theorem ty_157_865 : tsz Tryz.prog 157 = some 1 := by kernel_rfl
@[go_sem] theorem ty_157_866 : tbytes Tryz.prog 157 = some 8 := by kernel_rfl
@[go_sem] theorem ty_157_867 : tzero Tryz.prog 157 = some [.nilFunc] := by kernel_rfl
@[go_sem] theorem ty_157_868 : tagg Tryz.prog 157 = some false := by kernel_rfl
@[go_sem] theorem ty_157_869 : blksz Tryz.prog 157 = some 1 := by kernel_rfl
@[go_sem] theorem ty_158_870 : tsz Tryz.prog 158 = some 1 := by kernel_rfl
@[go_sem] theorem ty_158_871 : tbytes Tryz.prog 158 = some 8 := by kernel_rfl
@[go_sem] theorem ty_158_872 : tzero Tryz.prog 158 = some [.nilFunc] := by kernel_rfl
@[go_sem] theorem ty_158_873 : tagg Tryz.prog 158 = some false := by kernel_rfl
@[go_sem] theorem ty_158_874 : blksz Tryz.prog 158 = some 1 := by kernel_rfl
@[go_sem] theorem ty_159_875 : tsz Tryz.prog 159 = some 1 := by kernel_rfl
@[go_sem] theorem ty_159_876 : tbytes Tryz.prog 159 = some 24 := by kernel_rfl
@[go_sem] theorem ty_159_877 : tzero Tryz.prog 159 = some [.slice none 0 0] := by kernel_rfl
@[go_sem] theorem ty_159_878 : tagg Tryz.prog 159 = some false := by kernel_rfl
@[go_sem] theorem ty_159_879 : telem Tryz.prog 159 = some 162 := by kernel_rfl
@[go_sem] theorem ty_159_880 : tstr Tryz.prog 159 = false := by kernel_rfl
@[go_sem] theorem ty_159_881 : blksz Tryz.prog 159 = some 1 := by kernel_rfl
@[go_sem] theorem ty_160_882 : tsz Tryz.prog 160 = some 1 := by kernel_rfl
@[go_sem] theorem ty_160_883 : tbytes Tryz.prog 160 = some 8 := by kernel_rfl
@[go_sem] theorem ty_160_884 : tzero Tryz.prog 160 = some [.nilFunc] := by kernel_rfl
@[go_sem] theorem ty_160_885 : tagg Tryz.prog 160 = some false := by kernel_rfl
@[go_sem] theorem ty_160_886 : blksz Tryz.prog 160 = some 1 := by kernel_rfl
@[go_sem] theorem ty_161_887 : tsz Tryz.prog 161 = some 2 := by kernel_rfl
@[go_sem] theorem ty_161_888 : tbytes Tryz.prog 161 = some 16 := by kernel_rfl
@[go_sem] theorem ty_161_889 : tzero Tryz.prog 161 = some [.int .i64 0, .int .i64 0] := by kernel_rfl
@[go_sem] theorem ty_161_890 : tagg Tryz.prog 161 = some true := by kernel_rfl
@[go_sem] theorem ty_161_891 : tarr Tryz.prog 161 = none := by kernel_rfl
@[go_sem] theorem ty_161_892 : blksz Tryz.prog 161 = some 2 := by kernel_rfl
@[go_sem] theorem ty_161_893 : tplaces Tryz.prog 161 = some [(0, 1), (1, 1)] := by kernel_rfl
@[go_sem] theorem ty_161_894 : structK Tryz.prog 161 = some [1, 1] := by kernel_rfl
@[go_sem] theorem ty_161_895 : tfield Tryz.prog 161 0 = some (0, 3) := by kernel_rfl
@[go_sem] theorem ty_161_896 : tfield Tryz.prog 161 1 = some (1, 3) := by kernel_rfl
@[go_sem] theorem ty_162_897 : tsz Tryz.prog 162 = some 2 := by kernel_rfl
@[go_sem] theorem ty_162_898 : tbytes Tryz.prog 162 = some 16 := by kernel_rfl
@[go_sem] theorem ty_162_899 : tzero Tryz.prog 162 = some [.int .i64 0, .int .i64 0] := by kernel_rfl
@[go_sem] theorem ty_162_900 : tagg Tryz.prog 162 = some true := by kernel_rfl
@[go_sem] theorem ty_162_901 : tarr Tryz.prog 162 = none := by kernel_rfl
@[go_sem] theorem ty_162_902 : blksz Tryz.prog 162 = some 2 := by kernel_rfl
@[go_sem] theorem ty_162_903 : tplaces Tryz.prog 162 = some [(0, 1), (1, 1)] := by kernel_rfl
@[go_sem] theorem ty_162_904 : structK Tryz.prog 162 = some [1, 1] := by kernel_rfl
@[go_sem] theorem ty_162_905 : tfield Tryz.prog 162 0 = some (0, 3) := by kernel_rfl
@[go_sem] theorem ty_162_906 : tfield Tryz.prog 162 1 = some (1, 3) := by kernel_rfl
@[go_sem] theorem ty_163_907 : tsz Tryz.prog 163 = some 1 := by kernel_rfl
@[go_sem] theorem ty_163_908 : tbytes Tryz.prog 163 = some 8 := by kernel_rfl
@[go_sem] theorem ty_163_909 : tzero Tryz.prog 163 = some [.nilFunc] := by kernel_rfl
@[go_sem] theorem ty_163_910 : tagg Tryz.prog 163 = some false := by kernel_rfl
@[go_sem] theorem ty_163_911 : blksz Tryz.prog 163 = some 1 := by kernel_rfl
@[go_sem] theorem ty_164_912 : tsz Tryz.prog 164 = some 1 := by kernel_rfl
@[go_sem] theorem ty_164_913 : tbytes Tryz.prog 164 = some 8 := by kernel_rfl
@[go_sem] theorem ty_164_914 : tzero Tryz.prog 164 = some [.nilFunc] := by kernel_rfl
@[go_sem] theorem ty_164_915 : tagg Tryz.prog 164 = some false := by kernel_rfl
@[go_sem] theorem ty_164_916 : blksz Tryz.prog 164 = some 1 := by kernel_rfl
@[go_sem] theorem ty_165_917 : tsz Tryz.prog 165 = some 1 := by kernel_rfl
@[go_sem] theorem ty_165_918 : tbytes Tryz.prog 165 = some 8 := by kernel_rfl
@[go_sem] theorem ty_165_919 : tzero Tryz.prog 165 = some [.nilFunc] := by kernel_rfl
@[go_sem] theorem ty_165_920 : tagg Tryz.prog 165 = some false := by kernel_rfl
@[go_sem] theorem ty_165_921 : blksz Tryz.prog 165 = some 1 := by kernel_rfl
@[go_sem] theorem ty_166_922 : tsz Tryz.prog 166 = some 1 := by kernel_rfl
@[go_sem] theorem ty_166_923 : tbytes Tryz.prog 166 = some 8 := by kernel_rfl
@[go_sem] theorem ty_166_924 : tzero Tryz.prog 166 = some [.nilFunc] := by kernel_rfl
@[go_sem] theorem ty_166_925 : tagg Tryz.prog 166 = some false := by kernel_rfl
@[go_sem] theorem ty_166_926 : blksz Tryz.prog 166 = some 1 := by kernel_rfl
@[go_sem] theorem ty_167_927 : tsz Tryz.prog 167 = some 1 := by kernel_rfl
@[go_sem] theorem ty_167_928 : tbytes Tryz.prog 167 = some 8 := by kernel_rfl
@[go_sem] theorem ty_167_929 : tzero Tryz.prog 167 = some [.nilFunc] := by kernel_rfl
@[go_sem] theorem ty_167_930 : tagg Tryz.prog 167 = some false := by kernel_rfl
@[go_sem] theorem ty_167_931 : blksz Tryz.prog 167 = some 1 := by kernel_rfl
@[go_sem] theorem ty_168_932 : tsz Tryz.prog 168 = some 1 := by kernel_rfl
@[go_sem] theorem ty_168_933 : tbytes Tryz.prog 168 = some 8 := by kernel_rfl
@[go_sem] theorem ty_168_934 : tzero Tryz.prog 168 = some [.nilFunc] := by kernel_rfl
@[go_sem] theorem ty_168_935 : tagg Tryz.prog 168 = some false := by kernel_rfl
@[go_sem] theorem ty_168_936 : blksz Tryz.prog 168 = some 1 := by kernel_rfl
@[go_sem] theorem ty_169_937 : tsz Tryz.prog 169 = some 1 := by kernel_rfl
@[go_sem] theorem ty_169_938 : tbytes Tryz.prog 169 = some 8 := by kernel_rfl
@[go_sem] theorem ty_169_939 : tzero Tryz.prog 169 = some [.nilFunc] := by kernel_rfl
@[go_sem] theorem ty_169_940 : tagg Tryz.prog 169 = some false := by kernel_rfl
@[go_sem] theorem ty_169_941 : blksz Tryz.prog 169 = some 1 := by kernel_rfl
@[go_sem] theorem ty_170_942 : tsz Tryz.prog 170 = some 1 := by kernel_rfl
@[go_sem] theorem ty_170_943 : tbytes Tryz.prog 170 = some 8 := by kernel_rfl
@[go_sem] theorem ty_170_944 : tzero Tryz.prog 170 = some [.nilFunc] := by kernel_rfl
@[go_sem] theorem ty_170_945 : tagg Tryz.prog 170 = some false := by kernel_rfl
@[go_sem] theorem ty_170_946 : blksz Tryz.prog 170 = some 1 := by kernel_rfl
@[go_sem] theorem ty_171_947 : tsz Tryz.prog 171 = some 1 := by kernel_rfl
@[go_sem] theorem ty_171_948 : tbytes Tryz.prog 171 = some 8 := by kernel_rfl
@[go_sem] theorem ty_171_949 : tzero Tryz.prog 171 = some [.nilFunc] := by kernel_rfl
@[go_sem] theorem ty_171_950 : tagg Tryz.prog 171 = some false := by kernel_rfl
@[go_sem] theorem ty_171_951 : blksz Tryz.prog 171 = some 1 := by kernel_rfl
@[go_sem] theorem ty_172_952 : tsz Tryz.prog 172 = some 1 := by kernel_rfl
@[go_sem] theorem ty_172_953 : tbytes Tryz.prog 172 = some 8 := by kernel_rfl
@[go_sem] theorem ty_172_954 : tzero Tryz.prog 172 = some [.nilFunc] := by kernel_rfl
@[go_sem] theorem ty_172_955 : tagg Tryz.prog 172 = some false := by kernel_rfl
@[go_sem] theorem ty_172_956 : blksz Tryz.prog 172 = some 1 := by kernel_rfl
@[go_sem] theorem ty_173_957 : tsz Tryz.prog 173 = some 1 := by kernel_rfl
@[go_sem] theorem ty_173_958 : tbytes Tryz.prog 173 = some 8 := by kernel_rfl
@[go_sem] theorem ty_173_959 : tzero Tryz.prog 173 = some [.nilFunc] := by kernel_rfl
@[go_sem] theorem ty_173_960 : tagg Tryz.prog 173 = some false := by kernel_rfl
@[go_sem] theorem ty_173_961 : blksz Tryz.prog 173 = some 1 := by kernel_rfl
@[go_sem] theorem ty_174_962 : tsz Tryz.prog 174 = some 1 := by kernel_rfl
@[go_sem] theorem ty_174_963 : tbytes Tryz.prog 174 = some 8 := by kernel_rfl
@[go_sem] theorem ty_174_964 : tzero Tryz.prog 174 = some [.nilFunc] := by kernel_rfl
@[go_sem] theorem ty_174_965 : tagg Tryz.prog 174 = some false := by kernel_rfl
@[go_sem] theorem ty_174_966 : blksz Tryz.prog 174 = some 1 := by kernel_rfl
@[go_sem] theorem ty_175_967 : tsz Tryz.prog 175 = some 1 := by kernel_rfl
@[go_sem] theorem ty_175_968 : tbytes Tryz.prog 175 = some 8 := by kernel_rfl
@[go_sem] theorem ty_175_969 : tzero Tryz.prog 175 = some [.int .u64 0] := by kernel_rfl
@[go_sem] theorem ty_175_970 : tagg Tryz.prog 175 = some false := by kernel_rfl
@[go_sem] theorem ty_175_971 : tint Tryz.prog 175 = some .u64 := by kernel_rfl
@[go_sem] theorem ty_175_972 : blksz Tryz.prog 175 = some 1 := by kernel_rfl
@[go_sem] theorem ty_176_973 : tsz Tryz.prog 176 = some 1 := by kernel_rfl
@[go_sem] theorem ty_176_974 : tbytes Tryz.prog 176 = some 24 := by kernel_rfl
@[go_sem] theorem ty_176_975 : tzero Tryz.prog 176 = some [.slice none 0 0] := by kernel_rfl
@[go_sem] theorem ty_176_976 : tagg Tryz.prog 176 = some false := by kernel_rfl
@[go_sem] theorem ty_176_977 : telem Tryz.prog 176 = some 146 := by kernel_rfl
@[go_sem] theorem ty_176_978 : tstr Tryz.prog 176 = false := by kernel_rfl
@[go_sem] theorem ty_176_979 : blksz Tryz.prog 176 = some 1 := by kernel_rfl
@[go_sem] theorem ty_177_980 : tsz Tryz.prog 177 = some 1 := by kernel_rfl
@[go_sem] theorem ty_177_981 : tbytes Tryz.prog 177 = some 8 := by kernel_rfl
@[go_sem] theorem ty_177_982 : tzero Tryz.prog 177 = some [.nilFunc] := by kernel_rfl
@[go_sem] theorem ty_177_983 : tagg Tryz.prog 177 = some false := by kernel_rfl
@[go_sem] theorem ty_177_984 : blksz Tryz.prog 177 = some 1 := by kernel_rfl
@[go_sem] theorem ty_178_985 : tsz Tryz.prog 178 = some 1 := by kernel_rfl
@[go_sem] theorem ty_178_986 : tbytes Tryz.prog 178 = some 0 := by kernel_rfl
@[go_sem] theorem ty_178_987 : tagg Tryz.prog 178 = some false := by kernel_rfl
@[go_sem] theorem ty_178_988 : blksz Tryz.prog 178 = some 1 := by kernel_rfl
@[go_sem] theorem ty_179_989 : tsz Tryz.prog 179 = some 1 := by kernel_rfl
@[go_sem] theorem ty_179_990 : tbytes Tryz.prog 179 = some 8 := by kernel_rfl
@[go_sem] theorem ty_179_991 : tzero Tryz.prog 179 = some [.nilFunc] := by kernel_rfl
@[go_sem] theorem ty_179_992 : tagg Tryz.prog 179 = some false := by kernel_rfl
@[go_sem] theorem ty_179_993 : blksz Tryz.prog 179 = some 1 := by kernel_rfl
@[go_sem] theorem ty_180_994 : tsz Tryz.prog 180 = some 1 := by kernel_rfl
@[go_sem] theorem ty_180_995 : tbytes Tryz.prog 180 = some 8 := by kernel_rfl
@[go_sem] theorem ty_180_996 : tzero Tryz.prog 180 = some [.nilFunc] := by kernel_rfl
@[go_sem] theorem ty_180_997 : tagg Tryz.prog 180 = some false := by kernel_rfl
@[go_sem] theorem ty_180_998 : blksz Tryz.prog 180 = some 1 := by kernel_rfl
@[go_sem] theorem ty_181_999 : tsz Tryz.prog 181 = some 1 := by kernel_rfl
@[go_sem] theorem ty_181_1000 : tbytes Tryz.prog 181 = some 24 := by kernel_rfl
@[go_sem] theorem ty_181_1001 : tzero Tryz.prog 181 = some [.slice none 0 0] := by kernel_rfl
@[go_sem] theorem ty_181_1002 : tagg Tryz.prog 181 = some false := by kernel_rfl
@[go_sem] theorem ty_181_1003 : telem Tryz.prog 181 = some 71 := by kernel_rfl
@[go_sem] theorem ty_181_1004 : tstr Tryz.prog 181 = false := by kernel_rfl
@[go_sem] theorem ty_181_1005 : blksz Tryz.prog 181 = some 1 := by kernel_rfl
@[go_sem] theorem ty_182_1006 : tsz Tryz.prog 182 = some 1 := by kernel_rfl
@[go_sem] theorem ty_182_1007 : tbytes Tryz.prog 182 = some 8 := by kernel_rfl
@[go_sem] theorem ty_182_1008 : tzero Tryz.prog 182 = some [.nilFunc] := by kernel_rfl
@[go_sem] theorem ty_182_1009 : tagg Tryz.prog 182 = some false := by kernel_rfl
@[go_sem] theorem ty_182_1010 : blksz Tryz.prog 182 = some 1 := by kernel_rfl
@[go_sem] theorem ty_183_1011 : tsz Tryz.prog 183 = some 1 := by kernel_rfl
@[go_sem] theorem ty_183_1012 : tbytes Tryz.prog 183 = some 8 := by kernel_rfl
@[go_sem] theorem ty_183_1013 : tzero Tryz.prog 183 = some [.nilFunc] := by kernel_rfl
@[go_sem] theorem ty_183_1014 : tagg Tryz.prog 183 = some false := by kernel_rfl
@[go_sem] theorem ty_183_1015 : blksz Tryz.prog 183 = some 1 := by kernel_rfl
@[go_sem] theorem ty_184_1016 : tsz Tryz.prog 184 = some 1 := by kernel_rfl
@[go_sem] theorem ty_184_1017 : tbytes Tryz.prog 184 = some 8 := by kernel_rfl
@[go_sem] theorem ty_184_1018 : tzero Tryz.prog 184 = some [.nilFunc] := by kernel_rfl
@[go_sem] theorem ty_184_1019 : tagg Tryz.prog 184 = some false := by kernel_rfl
@[go_sem] theorem ty_184_1020 : blksz Tryz.prog 184 = some 1 := by kernel_rfl
@[go_sem] theorem ty_185_1021 : tsz Tryz.prog 185 = some 1 := by kernel_rfl
@[go_sem] theorem ty_185_1022 : tbytes Tryz.prog 185 = some 8 := by kernel_rfl
@[go_sem] theorem ty_185_1023 : tzero Tryz.prog 185 = some [.nilFunc] := by kernel_rfl
@[go_sem] theorem ty_185_1024 : tagg Tryz.prog 185 = some false := by kernel_rfl
@[go_sem] theorem ty_185_1025 : blksz Tryz.prog 185 = some 1 := by kernel_rfl
@[go_sem] theorem ty_186_1026 : tsz Tryz.prog 186 = some 1 := by kernel_rfl
@[go_sem] theorem ty_186_1027 : tbytes Tryz.prog 186 = some 8 := by kernel_rfl
@[go_sem] theorem ty_186_1028 : tzero Tryz.prog 186 = some [.nilFunc] := by kernel_rfl
@[go_sem] theorem ty_186_1029 : tagg Tryz.prog 186 = some false := by kernel_rfl
@[go_sem] theorem ty_186_1030 : blksz Tryz.prog 186 = some 1 := by kernel_rfl
@[go_sem] theorem ty_187_1031 : tsz Tryz.prog 187 = some 1 := by kernel_rfl
@[go_sem] theorem ty_187_1032 : tbytes Tryz.prog 187 = some 8 := by kernel_rfl
@[go_sem] theorem ty_187_1033 : tzero Tryz.prog 187 = some [.nilFunc] := by kernel_rfl
@[go_sem] theorem ty_187_1034 : tagg Tryz.prog 187 = some false := by kernel_rfl
@[go_sem] theorem ty_187_1035 : blksz Tryz.prog 187 = some 1 := by kernel_rfl
@[go_sem] theorem ty_188_1036 : tsz Tryz.prog 188 = some 1 := by kernel_rfl
@[go_sem] theorem ty_188_1037 : tbytes Tryz.prog 188 = some 8 := by kernel_rfl
@[go_sem] theorem ty_188_1038 : tzero Tryz.prog 188 = some [.nilFunc] := by kernel_rfl
@[go_sem] theorem ty_188_1039 : tagg Tryz.prog 188 = some false := by kernel_rfl
@[go_sem] theorem ty_188_1040 : blksz Tryz.prog 188 = some 1 := by kernel_rfl
@[go_sem] theorem ty_189_1041 : tsz Tryz.prog 189 = some 1 := by kernel_rfl
@[go_sem] theorem ty_189_1042 : tbytes Tryz.prog 189 = some 8 := by kernel_rfl
@[go_sem] theorem ty_189_1043 : tzero Tryz.prog 189 = some [.nilFunc] := by kernel_rfl
@[go_sem] theorem ty_189_1044 : tagg Tryz.prog 189 = some false := by kernel_rfl
@[go_sem] theorem ty_189_1045 : blksz Tryz.prog 189 = some 1 := by kernel_rfl
@[go_sem] theorem ty_190_1046 : tsz Tryz.prog 190 = some 1 := by kernel_rfl
@[go_sem] theorem ty_190_1047 : tbytes Tryz.prog 190 = some 8 := by kernel_rfl
@[go_sem] theorem ty_190_1048 : tzero Tryz.prog 190 = some [.nilFunc] := by kernel_rfl
@[go_sem] theorem ty_190_1049 : tagg Tryz.prog 190 = some false := by kernel_rfl
@[go_sem] theorem ty_190_1050 : blksz Tryz.prog 190 = some 1 := by kernel_rfl
@[go_sem] theorem ty_191_1051 : tsz Tryz.prog 191 = some 1 := by kernel_rfl
@[go_sem] theorem ty_191_1052 : tbytes Tryz.prog 191 = some 8 := by kernel_rfl
@[go_sem] theorem ty_191_1053 : tzero Tryz.prog 191 = some [.nilFunc] := by kernel_rfl
@[go_sem] theorem ty_191_1054 : tagg Tryz.prog 191 = some false := by kernel_rfl
@[go_sem] theorem ty_191_1055 : blksz Tryz.prog 191 = some 1 := by kernel_rfl
@[go_sem] theorem ty_192_1056 : tsz Tryz.prog 192 = some 1 := by kernel_rfl
@[go_sem] theorem ty_192_1057 : tbytes Tryz.prog 192 = some 24 := by kernel_rfl
@[go_sem] theorem ty_192_1058 : tzero Tryz.prog 192 = some [.slice none 0 0] := by kernel_rfl
@[go_sem] theorem ty_192_1059 : tagg Tryz.prog 192 = some false := by kernel_rfl
@[go_sem] theorem ty_192_1060 : telem Tryz.prog 192 = some 5 := by kernel_rfl
@[go_sem] theorem ty_192_1061 : tstr Tryz.prog 192 = false := by kernel_rfl
@[go_sem] theorem ty_192_1062 : blksz Tryz.prog 192 = some 1 := by kernel_rfl
@[go_sem] theorem ty_193_1063 : tsz Tryz.prog 193 = some 1 := by kernel_rfl
@[go_sem] theorem ty_193_1064 : tbytes Tryz.prog 193 = some 8 := by kernel_rfl
@[go_sem] theorem ty_193_1065 : tzero Tryz.prog 193 = some [.nilFunc] := by kernel_rfl
@[go_sem] theorem ty_193_1066 : tagg Tryz.prog 193 = some false := by kernel_rfl
@[go_sem] theorem ty_193_1067 : blksz Tryz.prog 193 = some 1 := by kernel_rfl
@[go_sem] theorem ty_194_1068 : tsz Tryz.prog 194 = some 1 := by kernel_rfl
@[go_sem] theorem ty_194_1069 : tbytes Tryz.prog 194 = some 8 := by kernel_rfl
@[go_sem] theorem ty_194_1070 : tzero Tryz.prog 194 = some [.nilFunc] := by kernel_rfl
@[go_sem] theorem ty_194_1071 : tagg Tryz.prog 194 = some false := by kernel_rfl
@[go_sem] theorem ty_194_1072 : blksz Tryz.prog 194 = some 1 := by kernel_rfl
@[go_sem] theorem ty_195_1073 : tsz Tryz.prog 195 = some 1 := by kernel_rfl
@[go_sem] theorem ty_195_1074 : tbytes Tryz.prog 195 = some 0 := by kernel_rfl
@[go_sem] theorem ty_195_1075 : tagg Tryz.prog 195 = some false := by kernel_rfl
@[go_sem] theorem ty_195_1076 : blksz Tryz.prog 195 = some 1 := by kernel_rfl
@[go_sem] theorem ty_196_1077 : tsz Tryz.prog 196 = some 1 := by kernel_rfl
@[go_sem] theorem ty_196_1078 : tbytes Tryz.prog 196 = some 8 := by kernel_rfl
@[go_sem] theorem ty_196_1079 : tzero Tryz.prog 196 = some [.nilFunc] := by kernel_rfl
@[go_sem] theorem ty_196_1080 : tagg Tryz.prog 196 = some false := by kernel_rfl
@[go_sem] theorem ty_196_1081 : blksz Tryz.prog 196 = some 1 := by kernel_rfl
@[go_sem] theorem ty_197_1082 : tsz Tryz.prog 197 = some 1 := by kernel_rfl
@[go_sem] theorem ty_197_1083 : tbytes Tryz.prog 197 = some 0 := by kernel_rfl
@[go_sem] theorem ty_197_1084 : tagg Tryz.prog 197 = some false := by kernel_rfl
@[go_sem] theorem ty_197_1085 : blksz Tryz.prog 197 = some 1 := by kernel_rfl
@[go_sem] theorem ty_198_1086 : tsz Tryz.prog 198 = some 1 := by kernel_rfl
@[go_sem] theorem ty_198_1087 : tbytes Tryz.prog 198 = some 8 := by kernel_rfl
@[go_sem] theorem ty_198_1088 : tzero Tryz.prog 198 = some [.nilFunc] := by kernel_rfl
@[go_sem] theorem ty_198_1089 : tagg Tryz.prog 198 = some false := by kernel_rfl
@[go_sem] theorem ty_198_1090 : blksz Tryz.prog 198 = some 1 := by kernel_rfl
@[go_sem] theorem ty_199_1091 : tsz Tryz.prog 199 = some 1 := by kernel_rfl
@[go_sem] theorem ty_199_1092 : tbytes Tryz.prog 199 = some 8 := by kernel_rfl
@[go_sem] theorem ty_199_1093 : tzero Tryz.prog 199 = some [.nilFunc] := by kernel_rfl
@[go_sem] theorem ty_199_1094 : tagg Tryz.prog 199 = some false := by kernel_rfl
@[go_sem] theorem ty_199_1095 : blksz Tryz.prog 199 = some 1 := by kernel_rfl
@[go_sem] theorem ty_200_1096 : tsz Tryz.prog 200 = some 1 := by kernel_rfl
@[go_sem] theorem ty_200_1097 : tbytes Tryz.prog 200 = some 8 := by kernel_rfl
@[go_sem] theorem ty_200_1098 : tzero Tryz.prog 200 = some [.nilFunc] := by kernel_rfl
@[go_sem] theorem ty_200_1099 : tagg Tryz.prog 200 = some false := by kernel_rfl
@[go_sem] theorem ty_200_1100 : blksz Tryz.prog 200 = some 1 := by kernel_rfl
@[go_sem] theorem ty_201_1101 : tsz Tryz.prog 201 = some 1 := by kernel_rfl
@[go_sem] theorem ty_201_1102 : tbytes Tryz.prog 201 = some 8 := by kernel_rfl
@[go_sem] theorem ty_201_1103 : tzero Tryz.prog 201 = some [.nilFunc] := by kernel_rfl
@[go_sem] theorem ty_201_1104 : tagg Tryz.prog 201 = some false := by kernel_rfl
@[go_sem] theorem ty_201_1105 : blksz Tryz.prog 201 = some 1 := by kernel_rfl
@[go_sem] theorem ty_202_1106 : tsz Tryz.prog 202 = some 1 := by kernel_rfl
@[go_sem] theorem ty_202_1107 : tbytes Tryz.prog 202 = some 8 := by kernel_rfl
@[go_sem] theorem ty_202_1108 : tzero Tryz.prog 202 = some [.nilFunc] := by kernel_rfl
@[go_sem] theorem ty_202_1109 : tagg Tryz.prog 202 = some false := by kernel_rfl
@[go_sem] theorem ty_202_1110 : blksz Tryz.prog 202 = some 1 := by kernel_rfl
@[go_sem] theorem ty_203_1111 : tsz Tryz.prog 203 = some 1 := by kernel_rfl
@[go_sem] theorem ty_203_1112 : tbytes Tryz.prog 203 = some 8 := by kernel_rfl
@[go_sem] theorem ty_203_1113 : tzero Tryz.prog 203 = some [.nilFunc] := by kernel_rfl
@[go_sem] theorem ty_203_1114 : tagg Tryz.prog 203 = some false := by kernel_rfl
@[go_sem] theorem ty_203_1115 : blksz Tryz.prog 203 = some 1 := by kernel_rfl
@[go_sem] theorem ty_204_1116 : tsz Tryz.prog 204 = some 1 := by kernel_rfl
@[go_sem] theorem ty_204_1117 : tbytes Tryz.prog 204 = some 8 := by kernel_rfl
@[go_sem] theorem ty_204_1118 : tzero Tryz.prog 204 = some [.nilFunc] := by kernel_rfl
@[go_sem] theorem ty_204_1119 : tagg Tryz.prog 204 = some false := by kernel_rfl
@[go_sem] theorem ty_204_1120 : blksz Tryz.prog 204 = some 1 := by kernel_rfl
@[go_sem] theorem ty_205_1121 : tsz Tryz.prog 205 = some 1 := by kernel_rfl
@[go_sem] theorem ty_205_1122 : tbytes Tryz.prog 205 = some 8 := by kernel_rfl
@[go_sem] theorem ty_205_1123 : tzero Tryz.prog 205 = some [.nilFunc] := by kernel_rfl
@[go_sem] theorem ty_205_1124 : tagg Tryz.prog 205 = some false := by kernel_rfl
@[go_sem] theorem ty_205_1125 : blksz Tryz.prog 205 = some 1 := by kernel_rfl
@[go_sem] theorem ty_206_1126 : tsz Tryz.prog 206 = some 1 := by kernel_rfl
@[go_sem] theorem ty_206_1127 : tbytes Tryz.prog 206 = some 8 := by kernel_rfl
@[go_sem] theorem ty_206_1128 : tzero Tryz.prog 206 = some [.nilFunc] := by kernel_rfl
@[go_sem] theorem ty_206_1129 : tagg Tryz.prog 206 = some false := by kernel_rfl
@[go_sem] theorem ty_206_1130 : blksz Tryz.prog 206 = some 1 := by kernel_rfl
@[go_sem] theorem ty_207_1131 : tsz Tryz.prog 207 = some 1 := by kernel_rfl
@[go_sem] theorem ty_207_1132 : tbytes Tryz.prog 207 = some 16 := by kernel_rfl
@[go_sem] theorem ty_207_1133 : tzero Tryz.prog 207 = some [.nilIface] := by kernel_rfl
@[go_sem] theorem ty_207_1134 : tagg Tryz.prog 207 = some false := by kernel_rfl
@[go_sem] theorem ty_207_1135 : blksz Tryz.prog 207 = some 1 := by kernel_rfl
@[go_sem] theorem ty_208_1136 : tsz Tryz.prog 208 = some 1 := by kernel_rfl
@[go_sem] theorem ty_208_1137 : tbytes Tryz.prog 208 = some 16 := by kernel_rfl
@[go_sem] theorem ty_208_1138 : tzero Tryz.prog 208 = some [.nilIface] := by kernel_rfl
@[go_sem] theorem ty_208_1139 : tagg Tryz.prog 208 = some false := by kernel_rfl
@[go_sem] theorem ty_208_1140 : blksz Tryz.prog 208 = some 1 := by kernel_rfl
@[go_sem] theorem ty_209_1141 : tsz Tryz.prog 209 = some 1 := by kernel_rfl
@[go_sem] theorem ty_209_1142 : tbytes Tryz.prog 209 = some 8 := by kernel_rfl
@[go_sem] theorem ty_209_1143 : tzero Tryz.prog 209 = some [.pointer none] := by kernel_rfl
@[go_sem] theorem ty_209_1144 : tagg Tryz.prog 209 = some false := by kernel_rfl
@[go_sem] theorem ty_209_1145 : blksz Tryz.prog 209 = some 1 := by kernel_rfl
@[go_sem] theorem ty_210_1146 : tsz Tryz.prog 210 = some 1 := by kernel_rfl
@[go_sem] theorem ty_210_1147 : tbytes Tryz.prog 210 = some 8 := by kernel_rfl
@[go_sem] theorem ty_210_1148 : tzero Tryz.prog 210 = some [.nilFunc] := by kernel_rfl
@[go_sem] theorem ty_210_1149 : tagg Tryz.prog 210 = some false := by kernel_rfl
@[go_sem] theorem ty_210_1150 : blksz Tryz.prog 210 = some 1 := by kernel_rfl
@[go_sem] theorem ty_211_1151 : tsz Tryz.prog 211 = some 4 := by kernel_rfl
@[go_sem] theorem ty_211_1152 : tbytes Tryz.prog 211 = some 40 := by kernel_rfl
@[go_sem] theorem ty_211_1153 : tzero Tryz.prog 211 = some [.pointer none, .pointer none, .pointer none, .string ByteArray.empty] := by kernel_rfl
@[go_sem] theorem ty_211_1154 : tagg Tryz.prog 211 = some true := by kernel_rfl
@[go_sem] theorem ty_211_1155 : tarr Tryz.prog 211 = none := by kernel_rfl
@[go_sem] theorem ty_211_1156 : blksz Tryz.prog 211 = some 4 := by kernel_rfl
@[go_sem] theorem ty_211_1157 : tplaces Tryz.prog 211 = some [(0, 1), (1, 1), (2, 1), (3, 1)] := by kernel_rfl
@[go_sem] theorem ty_211_1158 : tfield Tryz.prog 211 0 = some (0, 17) := by kernel_rfl
@[go_sem] theorem ty_211_1159 : tfield Tryz.prog 211 1 = some (1, 17) := by kernel_rfl
@[go_sem] theorem ty_211_1160 : tfield Tryz.prog 211 2 = some (2, 17) := by kernel_rfl
@[go_sem] theorem ty_211_1161 : tfield Tryz.prog 211 3 = some (3, 9) := by kernel_rfl
@[go_sem] theorem ty_212_1162 : tsz Tryz.prog 212 = some 4 := by kernel_rfl
@[go_sem] theorem ty_212_1163 : tbytes Tryz.prog 212 = some 40 := by kernel_rfl
@[go_sem] theorem ty_212_1164 : tzero Tryz.prog 212 = some [.pointer none, .pointer none, .pointer none, .string ByteArray.empty] := by kernel_rfl
@[go_sem] theorem ty_212_1165 : tagg Tryz.prog 212 = some true := by kernel_rfl
@[go_sem] theorem ty_212_1166 : tarr Tryz.prog 212 = none := by kernel_rfl
@[go_sem] theorem ty_212_1167 : blksz Tryz.prog 212 = some 4 := by kernel_rfl
@[go_sem] theorem ty_212_1168 : tplaces Tryz.prog 212 = some [(0, 1), (1, 1), (2, 1), (3, 1)] := by kernel_rfl
@[go_sem] theorem ty_212_1169 : tfield Tryz.prog 212 0 = some (0, 17) := by kernel_rfl
@[go_sem] theorem ty_212_1170 : tfield Tryz.prog 212 1 = some (1, 17) := by kernel_rfl
@[go_sem] theorem ty_212_1171 : tfield Tryz.prog 212 2 = some (2, 17) := by kernel_rfl
@[go_sem] theorem ty_212_1172 : tfield Tryz.prog 212 3 = some (3, 9) := by kernel_rfl
@[go_sem] theorem ty_213_1173 : tsz Tryz.prog 213 = some 0 := by kernel_rfl
@[go_sem] theorem ty_213_1174 : tbytes Tryz.prog 213 = some 0 := by kernel_rfl
@[go_sem] theorem ty_213_1175 : tzero Tryz.prog 213 = some [] := by kernel_rfl
@[go_sem] theorem ty_213_1176 : tagg Tryz.prog 213 = some true := by kernel_rfl
@[go_sem] theorem ty_213_1177 : tarr Tryz.prog 213 = some (0, 16) := by kernel_rfl
@[go_sem] theorem ty_213_1178 : blksz Tryz.prog 213 = some 1 := by kernel_rfl
@[go_sem] theorem ty_213_1179 : tplaces Tryz.prog 213 = none := by kernel_rfl
@[go_sem] theorem ty_214_1180 : tsz Tryz.prog 214 = some 0 := by kernel_rfl
@[go_sem] theorem ty_214_1181 : tbytes Tryz.prog 214 = some 0 := by kernel_rfl
@[go_sem] theorem ty_214_1182 : tzero Tryz.prog 214 = some [] := by kernel_rfl
@[go_sem] theorem ty_214_1183 : tagg Tryz.prog 214 = some true := by kernel_rfl
@[go_sem] theorem ty_214_1184 : tarr Tryz.prog 214 = none := by kernel_rfl
@[go_sem] theorem ty_214_1185 : blksz Tryz.prog 214 = some 0 := by kernel_rfl
@[go_sem] theorem ty_214_1186 : tplaces Tryz.prog 214 = some [(0, 0)] := by kernel_rfl
@[go_sem] theorem ty_214_1187 : tfield Tryz.prog 214 0 = some (0, 213) := by kernel_rfl
@[go_sem] theorem ty_215_1188 : tsz Tryz.prog 215 = some 0 := by kernel_rfl
@[go_sem] theorem ty_215_1189 : tbytes Tryz.prog 215 = some 0 := by kernel_rfl
@[go_sem] theorem ty_215_1190 : tzero Tryz.prog 215 = some [] := by kernel_rfl
@[go_sem] theorem ty_215_1191 : tagg Tryz.prog 215 = some true := by kernel_rfl
@[go_sem] theorem ty_215_1192 : tarr Tryz.prog 215 = none := by kernel_rfl
@[go_sem] theorem ty_215_1193 : blksz Tryz.prog 215 = some 0 := by kernel_rfl
@[go_sem] theorem ty_215_1194 : tplaces Tryz.prog 215 = some [(0, 0)] := by kernel_rfl
@[go_sem] theorem ty_215_1195 : tfield Tryz.prog 215 0 = some (0, 213) := by kernel_rfl
@[go_sem] theorem ty_216_1196 : tsz Tryz.prog 216 = some 1 := by kernel_rfl
@[go_sem] theorem ty_216_1197 : tbytes Tryz.prog 216 = some 8 := by kernel_rfl
@[go_sem] theorem ty_216_1198 : tzero Tryz.prog 216 = some [.nilFunc] := by kernel_rfl
@[go_sem] theorem ty_216_1199 : tagg Tryz.prog 216 = some false := by kernel_rfl
@[go_sem] theorem ty_216_1200 : blksz Tryz.prog 216 = some 1 := by kernel_rfl
@[go_sem] theorem ty_217_1201 : tsz Tryz.prog 217 = some 1 := by kernel_rfl
@[go_sem] theorem ty_217_1202 : tbytes Tryz.prog 217 = some 4 := by kernel_rfl
@[go_sem] theorem ty_217_1203 : tzero Tryz.prog 217 = some [.int .u32 0] := by kernel_rfl
@[go_sem] theorem ty_217_1204 : tagg Tryz.prog 217 = some false := by kernel_rfl
@[go_sem] theorem ty_217_1205 : tint Tryz.prog 217 = some .u32 := by kernel_rfl
@[go_sem] theorem ty_217_1206 : blksz Tryz.prog 217 = some 1 := by kernel_rfl
@[go_sem] theorem ty_218_1207 : tsz Tryz.prog 218 = some 1 := by kernel_rfl
@[go_sem] theorem ty_218_1208 : tbytes Tryz.prog 218 = some 1 := by kernel_rfl
@[go_sem] theorem ty_218_1209 : tzero Tryz.prog 218 = some [.int .u8 0] := by kernel_rfl
@[go_sem] theorem ty_218_1210 : tagg Tryz.prog 218 = some false := by kernel_rfl
@[go_sem] theorem ty_218_1211 : tint Tryz.prog 218 = some .u8 := by kernel_rfl
@[go_sem] theorem ty_218_1212 : blksz Tryz.prog 218 = some 1 := by kernel_rfl
@[go_sem] theorem ty_219_1213 : tsz Tryz.prog 219 = some 1 := by kernel_rfl
@[go_sem] theorem ty_219_1214 : tbytes Tryz.prog 219 = some 1 := by kernel_rfl
@[go_sem] theorem ty_219_1215 : tzero Tryz.prog 219 = some [.int .u8 0] := by kernel_rfl
@[go_sem] theorem ty_219_1216 : tagg Tryz.prog 219 = some false := by kernel_rfl
@[go_sem] theorem ty_219_1217 : tint Tryz.prog 219 = some .u8 := by kernel_rfl
@[go_sem] theorem ty_219_1218 : blksz Tryz.prog 219 = some 1 := by kernel_rfl
@[go_sem] theorem ty_220_1219 : tsz Tryz.prog 220 = some 1 := by kernel_rfl
@[go_sem] theorem ty_220_1220 : tbytes Tryz.prog 220 = some 8 := by kernel_rfl
@[go_sem] theorem ty_220_1221 : tzero Tryz.prog 220 = some [.nilFunc] := by kernel_rfl
@[go_sem] theorem ty_220_1222 : tagg Tryz.prog 220 = some false := by kernel_rfl
@[go_sem] theorem ty_220_1223 : blksz Tryz.prog 220 = some 1 := by kernel_rfl
@[go_sem] theorem ty_221_1224 : tsz Tryz.prog 221 = some 1 := by kernel_rfl
@[go_sem] theorem ty_221_1225 : tbytes Tryz.prog 221 = some 8 := by kernel_rfl
@[go_sem] theorem ty_221_1226 : tzero Tryz.prog 221 = some [.pointer none] := by kernel_rfl
@[go_sem] theorem ty_221_1227 : tagg Tryz.prog 221 = some false := by kernel_rfl
@[go_sem] theorem ty_221_1228 : blksz Tryz.prog 221 = some 1 := by kernel_rfl
@[go_sem] theorem ty_222_1229 : tsz Tryz.prog 222 = some 1 := by kernel_rfl
@[go_sem] theorem ty_222_1230 : tbytes Tryz.prog 222 = some 4 := by kernel_rfl
@[go_sem] theorem ty_222_1231 : tzero Tryz.prog 222 = some [.int .i32 0] := by kernel_rfl
@[go_sem] theorem ty_222_1232 : tagg Tryz.prog 222 = some false := by kernel_rfl
@[go_sem] theorem ty_222_1233 : tint Tryz.prog 222 = some .i32 := by kernel_rfl
@[go_sem] theorem ty_222_1234 : blksz Tryz.prog 222 = some 1 := by kernel_rfl
@[go_sem] theorem ty_223_1235 : tsz Tryz.prog 223 = some 1 := by kernel_rfl
@[go_sem] theorem ty_223_1236 : tbytes Tryz.prog 223 = some 4 := by kernel_rfl
@[go_sem] theorem ty_223_1237 : tzero Tryz.prog 223 = some [.int .i32 0] := by kernel_rfl
@[go_sem] theorem ty_223_1238 : tagg Tryz.prog 223 = some false := by kernel_rfl
@[go_sem] theorem ty_223_1239 : tint Tryz.prog 223 = some .i32 := by kernel_rfl
@[go_sem] theorem ty_223_1240 : blksz Tryz.prog 223 = some 1 := by kernel_rfl
@[go_sem] theorem ty_224_1241 : tsz Tryz.prog 224 = some 11 := by kernel_rfl
@[go_sem] theorem ty_224_1242 : tbytes Tryz.prog 224 = some 48 := by kernel_rfl
@[go_sem] theorem ty_224_1243 : tzero Tryz.prog 224 = some [.int .u64 0, .int .u64 0, .int .u32 0, .int .u8 0, .int .u8 0, .int .u8 0, .int .u8 0, .nilFunc, .pointer none, .int .i32 0, .int .i32 0] := by kernel_rfl
@[go_sem] theorem ty_224_1244 : tagg Tryz.prog 224 = some true := by kernel_rfl
@[go_sem] theorem ty_224_1245 : tarr Tryz.prog 224 = none := by kernel_rfl
@[go_sem] theorem ty_224_1246 : blksz Tryz.prog 224 = some 11 := by kernel_rfl
@[go_sem] theorem ty_224_1247 : tplaces Tryz.prog 224 = some [(0, 1), (1, 1), (2, 1), (3, 1), (4, 1), (5, 1), (6, 1), (7, 1), (8, 1), (9, 1), (10, 1)] := by kernel_rfl
@[go_sem] theorem ty_224_1248 : tfield Tryz.prog 224 0 = some (0, 12) := by kernel_rfl
@[go_sem] theorem ty_224_1249 : tfield Tryz.prog 224 1 = some (1, 12) := by kernel_rfl
@[go_sem] theorem ty_224_1250 : tfield Tryz.prog 224 2 = some (2, 217) := by kernel_rfl
@[go_sem] theorem ty_224_1251 : tfield Tryz.prog 224 3 = some (3, 218) := by kernel_rfl
@[go_sem] theorem ty_224_1252 : tfield Tryz.prog 224 4 = some (4, 5) := by kernel_rfl
@[go_sem] theorem ty_224_1253 : tfield Tryz.prog 224 5 = some (5, 5) := by kernel_rfl
@[go_sem] theorem ty_224_1254 : tfield Tryz.prog 224 6 = some (6, 219) := by kernel_rfl
@[go_sem] theorem ty_224_1255 : tfield Tryz.prog 224 7 = some (7, 220) := by kernel_rfl
@[go_sem] theorem ty_224_1256 : tfield Tryz.prog 224 8 = some (8, 221) := by kernel_rfl
@[go_sem] theorem ty_224_1257 : tfield Tryz.prog 224 9 = some (9, 222) := by kernel_rfl
@[go_sem] theorem ty_224_1258 : tfield Tryz.prog 224 10 = some (10, 223) := by kernel_rfl
@[go_sem] theorem ty_225_1259 : tsz Tryz.prog 225 = some 11 := by kernel_rfl
@[go_sem] theorem ty_225_1260 : tbytes Tryz.prog 225 = some 48 := by kernel_rfl
@[go_sem] theorem ty_225_1261 : tzero Tryz.prog 225 = some [.int .u64 0, .int .u64 0, .int .u32 0, .int .u8 0, .int .u8 0, .int .u8 0, .int .u8 0, .nilFunc, .pointer none, .int .i32 0, .int .i32 0] := by kernel_rfl
@[go_sem] theorem ty_225_1262 : tagg Tryz.prog 225 = some true := by kernel_rfl
@[go_sem] theorem ty_225_1263 : tarr Tryz.prog 225 = none := by kernel_rfl
@[go_sem] theorem ty_225_1264 : blksz Tryz.prog 225 = some 11 := by kernel_rfl
@[go_sem] theorem ty_225_1265 : tplaces Tryz.prog 225 = some [(0, 1), (1, 1), (2, 1), (3, 1), (4, 1), (5, 1), (6, 1), (7, 1), (8, 1), (9, 1), (10, 1)] := by kernel_rfl
@[go_sem] theorem ty_225_1266 : tfield Tryz.prog 225 0 = some (0, 12) := by kernel_rfl
@[go_sem] theorem ty_225_1267 : tfield Tryz.prog 225 1 = some (1, 12) := by kernel_rfl
@[go_sem] theorem ty_225_1268 : tfield Tryz.prog 225 2 = some (2, 217) := by kernel_rfl
@[go_sem] theorem ty_225_1269 : tfield Tryz.prog 225 3 = some (3, 218) := by kernel_rfl
@[go_sem] theorem ty_225_1270 : tfield Tryz.prog 225 4 = some (4, 5) := by kernel_rfl
@[go_sem] theorem ty_225_1271 : tfield Tryz.prog 225 5 = some (5, 5) := by kernel_rfl
@[go_sem] theorem ty_225_1272 : tfield Tryz.prog 225 6 = some (6, 219) := by kernel_rfl
@[go_sem] theorem ty_225_1273 : tfield Tryz.prog 225 7 = some (7, 220) := by kernel_rfl
@[go_sem] theorem ty_225_1274 : tfield Tryz.prog 225 8 = some (8, 221) := by kernel_rfl
@[go_sem] theorem ty_225_1275 : tfield Tryz.prog 225 9 = some (9, 222) := by kernel_rfl
@[go_sem] theorem ty_225_1276 : tfield Tryz.prog 225 10 = some (10, 223) := by kernel_rfl
@[go_sem] theorem ty_226_1277 : tsz Tryz.prog 226 = some 1 := by kernel_rfl
@[go_sem] theorem ty_226_1278 : tbytes Tryz.prog 226 = some 16 := by kernel_rfl
@[go_sem] theorem ty_226_1279 : tzero Tryz.prog 226 = some [.string ByteArray.empty] := by kernel_rfl
@[go_sem] theorem ty_226_1280 : tagg Tryz.prog 226 = some true := by kernel_rfl
@[go_sem] theorem ty_226_1281 : tarr Tryz.prog 226 = none := by kernel_rfl
@[go_sem] theorem ty_226_1282 : blksz Tryz.prog 226 = some 1 := by kernel_rfl
@[go_sem] theorem ty_226_1283 : tplaces Tryz.prog 226 = some [(0, 1)] := by kernel_rfl
@[go_sem] theorem ty_226_1284 : structK Tryz.prog 226 = some [2] := by kernel_rfl
@[go_sem] theorem ty_226_1285 : tfield Tryz.prog 226 0 = some (0, 9) := by kernel_rfl
@[go_sem] theorem ty_227_1286 : tsz Tryz.prog 227 = some 1 := by kernel_rfl
@[go_sem] theorem ty_227_1287 : tbytes Tryz.prog 227 = some 16 := by kernel_rfl
@[go_sem] theorem ty_227_1288 : tzero Tryz.prog 227 = some [.string ByteArray.empty] := by kernel_rfl
@[go_sem] theorem ty_227_1289 : tagg Tryz.prog 227 = some true := by kernel_rfl
@[go_sem] theorem ty_227_1290 : tarr Tryz.prog 227 = none := by kernel_rfl
@[go_sem] theorem ty_227_1291 : blksz Tryz.prog 227 = some 1 := by kernel_rfl
@[go_sem] theorem ty_227_1292 : tplaces Tryz.prog 227 = some [(0, 1)] := by kernel_rfl
@[go_sem] theorem ty_227_1293 : structK Tryz.prog 227 = some [2] := by kernel_rfl
@[go_sem] theorem ty_227_1294 : tfield Tryz.prog 227 0 = some (0, 9) := by kernel_rfl
@[go_sem] theorem ty_228_1295 : tsz Tryz.prog 228 = some 1 := by kernel_rfl
@[go_sem] theorem ty_228_1296 : tbytes Tryz.prog 228 = some 8 := by kernel_rfl
@[go_sem] theorem ty_228_1297 : tzero Tryz.prog 228 = some [.pointer none] := by kernel_rfl
@[go_sem] theorem ty_228_1298 : tagg Tryz.prog 228 = some false := by kernel_rfl
@[go_sem] theorem ty_228_1299 : blksz Tryz.prog 228 = some 1 := by kernel_rfl
@[go_sem] theorem res_0 : Tryz.f0.results = #[] := rfl
@[go_sem] theorem res_1 : Tryz.f1.results = #[] := rfl
@[go_sem] theorem res_2 : Tryz.f2.results = #[] := rfl
@[go_sem] theorem res_3 : Tryz.f3.results = #[ResultVar.tmp 4] := rfl
@[go_sem] theorem res_4 : Tryz.f4.results = #[ResultVar.tmp 6] := rfl
@[go_sem] theorem res_5 : Tryz.f5.results = #[ResultVar.tmp 6] := rfl
@[go_sem] theorem res_6 : Tryz.f6.results = #[ResultVar.tmp 6] := rfl
@[go_sem] theorem res_7 : Tryz.f7.results = #[ResultVar.tmp 4] := rfl
@[go_sem] theorem res_8 : Tryz.f8.results = #[ResultVar.tmp 6] := rfl
@[go_sem] theorem res_9 : Tryz.f9.results = #[ResultVar.tmp 4, ResultVar.tmp 5] := rfl
@[go_sem] theorem res_10 : Tryz.f10.results = #[ResultVar.tmp 4, ResultVar.tmp 5] := rfl
@[go_sem] theorem res_11 : Tryz.f11.results = #[ResultVar.tmp 2, ResultVar.tmp 3] := rfl
@[go_sem] theorem res_12 : Tryz.f12.results = #[ResultVar.tmp 2] := rfl
@[go_sem] theorem res_13 : Tryz.f13.results = #[ResultVar.tmp 4] := rfl
@[go_sem] theorem res_14 : Tryz.f14.results = #[ResultVar.tmp 2] := rfl
@[go_sem] theorem res_15 : Tryz.f15.results = #[ResultVar.tmp 4] := rfl
@[go_sem] theorem res_16 : Tryz.f16.results = #[ResultVar.tmp 0] := rfl
@[go_sem] theorem res_17 : Tryz.f17.results = #[ResultVar.tmp 4] := rfl
@[go_sem] theorem res_18 : Tryz.f18.results = #[ResultVar.tmp 4] := rfl
@[go_sem] theorem res_19 : Tryz.f19.results = #[ResultVar.tmp 4] := rfl
@[go_sem] theorem res_20 : Tryz.f20.results = #[ResultVar.tmp 6, ResultVar.tmp 7] := rfl
@[go_sem] theorem res_21 : Tryz.f21.results = #[ResultVar.tmp 4] := rfl
@[go_sem] theorem res_22 : Tryz.f22.results = #[ResultVar.cell 2 45] := rfl
@[go_sem] theorem res_23 : Tryz.f23.results = #[ResultVar.tmp 4] := rfl
@[go_sem] theorem res_24 : Tryz.f24.results = #[ResultVar.tmp 6, ResultVar.tmp 7] := rfl
@[go_sem] theorem res_25 : Tryz.f25.results = #[ResultVar.tmp 4] := rfl
@[go_sem] theorem res_26 : Tryz.f26.results = #[ResultVar.tmp 2, ResultVar.tmp 3] := rfl
@[go_sem] theorem res_27 : Tryz.f27.results = #[ResultVar.tmp 4, ResultVar.tmp 5] := rfl
@[go_sem] theorem res_28 : Tryz.f28.results = #[ResultVar.cell 2 55] := rfl
@[go_sem] theorem res_29 : Tryz.f29.results = #[ResultVar.tmp 4] := rfl
@[go_sem] theorem res_30 : Tryz.f30.results = #[ResultVar.tmp 4] := rfl
@[go_sem] theorem res_31 : Tryz.f31.results = #[ResultVar.tmp 6] := rfl
@[go_sem] theorem res_32 : Tryz.f32.results = #[ResultVar.tmp 4, ResultVar.tmp 5] := rfl
@[go_sem] theorem res_33 : Tryz.f33.results = #[ResultVar.tmp 6, ResultVar.tmp 7] := rfl
@[go_sem] theorem res_34 : Tryz.f34.results = #[ResultVar.tmp 4] := rfl
@[go_sem] theorem res_35 : Tryz.f35.results = #[ResultVar.tmp 4] := rfl
@[go_sem] theorem res_36 : Tryz.f36.results = #[ResultVar.tmp 6] := rfl
@[go_sem] theorem res_37 : Tryz.f37.results = #[ResultVar.tmp 6] := rfl
@[go_sem] theorem res_38 : Tryz.f38.results = #[ResultVar.tmp 4] := rfl
@[go_sem] theorem res_39 : Tryz.f39.results = #[ResultVar.tmp 6, ResultVar.tmp 7] := rfl
@[go_sem] theorem res_40 : Tryz.f40.results = #[ResultVar.tmp 4] := rfl
@[go_sem] theorem res_41 : Tryz.f41.results = #[ResultVar.tmp 2] := rfl
@[go_sem] theorem res_42 : Tryz.f42.results = #[ResultVar.tmp 4] := rfl
@[go_sem] theorem res_43 : Tryz.f43.results = #[ResultVar.tmp 4] := rfl
@[go_sem] theorem res_44 : Tryz.f44.results = #[ResultVar.tmp 4] := rfl
@[go_sem] theorem res_45 : Tryz.f45.results = #[ResultVar.tmp 3] := rfl
@[go_sem] theorem res_46 : Tryz.f46.results = #[ResultVar.tmp 4] := rfl
@[go_sem] theorem res_47 : Tryz.f47.results = #[ResultVar.tmp 2] := rfl
@[go_sem] theorem res_48 : Tryz.f48.results = #[ResultVar.tmp 2] := rfl
@[go_sem] theorem res_49 : Tryz.f49.results = #[ResultVar.tmp 4] := rfl
@[go_sem] theorem res_50 : Tryz.f50.results = #[ResultVar.tmp 4] := rfl
@[go_sem] theorem res_51 : Tryz.f51.results = #[ResultVar.tmp 4] := rfl
@[go_sem] theorem res_52 : Tryz.f52.results = #[ResultVar.tmp 4] := rfl
@[go_sem] theorem res_53 : Tryz.f53.results = #[ResultVar.tmp 4] := rfl
@[go_sem] theorem res_54 : Tryz.f54.results = #[ResultVar.cell 4 55] := rfl
@[go_sem] theorem res_55 : Tryz.f55.results = #[ResultVar.tmp 6, ResultVar.tmp 7] := rfl
@[go_sem] theorem res_56 : Tryz.f56.results = #[ResultVar.tmp 2] := rfl
@[go_sem] theorem res_57 : Tryz.f57.results = #[ResultVar.tmp 4] := rfl
@[go_sem] theorem res_58 : Tryz.f58.results = #[ResultVar.tmp 3] := rfl
@[go_sem] theorem res_59 : Tryz.f59.results = #[ResultVar.tmp 4, ResultVar.tmp 5] := rfl
@[go_sem] theorem res_60 : Tryz.f60.results = #[ResultVar.tmp 2] := rfl
@[go_sem] theorem res_61 : Tryz.f61.results = #[ResultVar.tmp 4] := rfl
@[go_sem] theorem res_62 : Tryz.f62.results = #[ResultVar.tmp 2] := rfl
@[go_sem] theorem res_63 : Tryz.f63.results = #[ResultVar.tmp 4] := rfl
@[go_sem] theorem res_64 : Tryz.f64.results = #[ResultVar.tmp 4] := rfl
@[go_sem] theorem res_65 : Tryz.f65.results = #[ResultVar.tmp 4] := rfl
@[go_sem] theorem res_66 : Tryz.f66.results = #[ResultVar.tmp 4] := rfl
@[go_sem] theorem res_67 : Tryz.f67.results = #[ResultVar.tmp 2] := rfl
@[go_sem] theorem res_68 : Tryz.f68.results = #[ResultVar.tmp 2] := rfl
@[go_sem] theorem res_69 : Tryz.f69.results = #[ResultVar.tmp 2] := rfl
@[go_sem] theorem res_70 : Tryz.f70.results = #[ResultVar.tmp 2] := rfl
@[go_sem] theorem res_71 : Tryz.f71.results = #[ResultVar.tmp 2] := rfl
@[go_sem] theorem res_72 : Tryz.f72.results = #[ResultVar.tmp 4, ResultVar.tmp 5] := rfl
@[go_sem] theorem res_73 : Tryz.f73.results = #[ResultVar.tmp 4] := rfl
@[go_sem] theorem res_74 : Tryz.f74.results = #[ResultVar.tmp 4] := rfl
@[go_sem] theorem res_75 : Tryz.f75.results = #[ResultVar.tmp 2] := rfl
@[go_sem] theorem res_76 : Tryz.f76.results = #[ResultVar.cell 2 53] := rfl
@[go_sem] theorem res_77 : Tryz.f77.results = #[ResultVar.cell 4 55] := rfl
@[go_sem] theorem res_78 : Tryz.f78.results = #[ResultVar.cell 4 55] := rfl
@[go_sem] theorem res_79 : Tryz.f79.results = #[ResultVar.tmp 2] := rfl
@[go_sem] theorem res_80 : Tryz.f80.results = #[ResultVar.cell 4 55] := rfl
@[go_sem] theorem res_81 : Tryz.f81.results = #[ResultVar.tmp 4] := rfl
@[go_sem] theorem res_82 : Tryz.f82.results = #[ResultVar.tmp 4] := rfl
@[go_sem] theorem res_83 : Tryz.f83.results = #[ResultVar.cell 4 109] := rfl
@[go_sem] theorem res_84 : Tryz.f84.results = #[ResultVar.tmp 6] := rfl
@[go_sem] theorem res_85 : Tryz.f85.results = #[ResultVar.tmp 6] := rfl
@[go_sem] theorem res_86 : Tryz.f86.results = #[ResultVar.tmp 4] := rfl
@[go_sem] theorem res_87 : Tryz.f87.results = #[ResultVar.tmp 2, ResultVar.tmp 3] := rfl
@[go_sem] theorem res_88 : Tryz.f88.results = #[ResultVar.tmp 4] := rfl
@[go_sem] theorem res_89 : Tryz.f89.results = #[ResultVar.tmp 4] := rfl
@[go_sem] theorem res_90 : Tryz.f90.results = #[ResultVar.cell 2 45] := rfl
@[go_sem] theorem res_91 : Tryz.f91.results = #[ResultVar.tmp 2, ResultVar.tmp 3] := rfl
@[go_sem] theorem res_92 : Tryz.f92.results = #[ResultVar.tmp 6] := rfl
@[go_sem] theorem res_93 : Tryz.f93.results = #[ResultVar.tmp 4] := rfl
@[go_sem] theorem res_94 : Tryz.f94.results = #[ResultVar.tmp 4] := rfl
@[go_sem] theorem res_95 : Tryz.f95.results = #[ResultVar.tmp 4] := rfl
@[go_sem] theorem res_96 : Tryz.f96.results = #[ResultVar.cell 2 45, ResultVar.tmp 3] := rfl
@[go_sem] theorem res_97 : Tryz.f97.results = #[ResultVar.cell 2 55] := rfl
@[go_sem] theorem res_98 : Tryz.f98.results = #[ResultVar.tmp 2] := rfl
@[go_sem] theorem res_99 : Tryz.f99.results = #[ResultVar.tmp 4] := rfl
@[go_sem] theorem res_100 : Tryz.f100.results = #[ResultVar.cell 4 55] := rfl
@[go_sem] theorem res_101 : Tryz.f101.results = #[ResultVar.cell 4 55] := rfl
@[go_sem] theorem res_102 : Tryz.f102.results = #[ResultVar.tmp 4, ResultVar.tmp 5] := rfl
@[go_sem] theorem res_103 : Tryz.f103.results = #[ResultVar.tmp 2] := rfl
@[go_sem] theorem res_104 : Tryz.f104.results = #[ResultVar.cell 4 55] := rfl
@[go_sem] theorem res_105 : Tryz.f105.results = #[ResultVar.tmp 4, ResultVar.tmp 5] := rfl
@[go_sem] theorem res_106 : Tryz.f106.results = #[ResultVar.tmp 2, ResultVar.tmp 3] := rfl
@[go_sem] theorem res_107 : Tryz.f107.results = #[ResultVar.tmp 2] := rfl
@[go_sem] theorem res_108 : Tryz.f108.results = #[ResultVar.tmp 2] := rfl
@[go_sem] theorem res_109 : Tryz.f109.results = #[ResultVar.tmp 4] := rfl
@[go_sem] theorem res_110 : Tryz.f110.results = #[ResultVar.tmp 4] := rfl
@[go_sem] theorem res_111 : Tryz.f111.results = #[ResultVar.tmp 2] := rfl
@[go_sem] theorem res_112 : Tryz.f112.results = #[ResultVar.tmp 4] := rfl
@[go_sem] theorem res_113 : Tryz.f113.results = #[ResultVar.tmp 4] := rfl
@[go_sem] theorem res_114 : Tryz.f114.results = #[ResultVar.tmp 2] := rfl
@[go_sem] theorem res_115 : Tryz.f115.results = #[ResultVar.tmp 2] := rfl
@[go_sem] theorem res_116 : Tryz.f116.results = #[ResultVar.tmp 4] := rfl
@[go_sem] theorem res_117 : Tryz.f117.results = #[ResultVar.tmp 2] := rfl
@[go_sem] theorem res_118 : Tryz.f118.results = #[ResultVar.tmp 2] := rfl
@[go_sem] theorem res_119 : Tryz.f119.results = #[ResultVar.tmp 4] := rfl
@[go_sem] theorem res_120 : Tryz.f120.results = #[ResultVar.cell 2 55] := rfl
@[go_sem] theorem res_121 : Tryz.f121.results = #[ResultVar.tmp 2] := rfl
@[go_sem] theorem res_122 : Tryz.f122.results = #[ResultVar.tmp 2] := rfl
@[go_sem] theorem res_123 : Tryz.f123.results = #[ResultVar.tmp 2] := rfl
@[go_sem] theorem res_124 : Tryz.f124.results = #[ResultVar.tmp 2] := rfl
@[go_sem] theorem res_125 : Tryz.f125.results = #[ResultVar.tmp 2] := rfl
@[go_sem] theorem res_126 : Tryz.f126.results = #[ResultVar.tmp 2] := rfl
@[go_sem] theorem res_127 : Tryz.f127.results = #[ResultVar.tmp 2, ResultVar.tmp 3] := rfl
@[go_sem] theorem res_128 : Tryz.f128.results = #[ResultVar.tmp 4, ResultVar.tmp 5] := rfl
@[go_sem] theorem res_129 : Tryz.f129.results = #[ResultVar.tmp 2] := rfl
@[go_sem] theorem res_130 : Tryz.f130.results = #[ResultVar.tmp 2] := rfl
@[go_sem] theorem res_131 : Tryz.f131.results = #[ResultVar.cell 2 55] := rfl
@[go_sem] theorem res_132 : Tryz.f132.results = #[ResultVar.cell 4 53] := rfl
@[go_sem] theorem res_133 : Tryz.f133.results = #[ResultVar.cell 4 53] := rfl
@[go_sem] theorem res_134 : Tryz.f134.results = #[ResultVar.cell 2 53] := rfl
@[go_sem] theorem res_135 : Tryz.f135.results = #[ResultVar.cell 4 55] := rfl
@[go_sem] theorem res_136 : Tryz.f136.results = #[ResultVar.tmp 4] := rfl
@[go_sem] theorem res_137 : Tryz.f137.results = #[ResultVar.tmp 6, ResultVar.tmp 7] := rfl
@[go_sem] theorem res_138 : Tryz.f138.results = #[ResultVar.tmp 5] := rfl
@[go_sem] theorem res_139 : Tryz.f139.results = #[ResultVar.tmp 4] := rfl
@[go_sem] theorem res_140 : Tryz.f140.results = #[ResultVar.tmp 4] := rfl
@[go_sem] theorem res_141 : Tryz.f141.results = #[ResultVar.tmp 2] := rfl
@[go_sem] theorem res_142 : Tryz.f142.results = #[ResultVar.tmp 2] := rfl
@[go_sem] theorem res_143 : Tryz.f143.results = #[ResultVar.tmp 4] := rfl
@[go_sem] theorem res_144 : Tryz.f144.results = #[ResultVar.tmp 3] := rfl
@[go_sem] theorem res_145 : Tryz.f145.results = #[ResultVar.tmp 4] := rfl
@[go_sem] theorem res_146 : Tryz.f146.results = #[ResultVar.tmp 2] := rfl
@[go_sem] theorem res_147 : Tryz.f147.results = #[ResultVar.tmp 2] := rfl
@[go_sem] theorem res_148 : Tryz.f148.results = #[ResultVar.tmp 6] := rfl
@[go_sem] theorem res_149 : Tryz.f149.results = #[ResultVar.tmp 4] := rfl
@[go_sem] theorem res_150 : Tryz.f150.results = #[ResultVar.tmp 4] := rfl
@[go_sem] theorem res_151 : Tryz.f151.results = #[ResultVar.cell 2 55] := rfl
@[go_sem] theorem res_152 : Tryz.f152.results = #[ResultVar.cell 2 53] := rfl
@[go_sem] theorem res_153 : Tryz.f153.results = #[] := rfl
@[go_sem] theorem res_154 : Tryz.f154.results = #[ResultVar.tmp 2, ResultVar.tmp 3] := rfl
@[go_sem] theorem res_155 : Tryz.f155.results = #[ResultVar.cell 4 53] := rfl
@[go_sem] theorem res_156 : Tryz.f156.results = #[ResultVar.cell 4 55] := rfl
@[go_sem] theorem res_157 : Tryz.f157.results = #[ResultVar.cell 4 53] := rfl
@[go_sem] theorem res_158 : Tryz.f158.results = #[ResultVar.tmp 4] := rfl
@[go_sem] theorem res_159 : Tryz.f159.results = #[ResultVar.cell 2 55] := rfl
@[go_sem] theorem res_160 : Tryz.f160.results = #[ResultVar.tmp 2] := rfl
@[go_sem] theorem res_161 : Tryz.f161.results = #[ResultVar.cell 2 55] := rfl
@[go_sem] theorem res_162 : Tryz.f162.results = #[ResultVar.cell 4 53] := rfl
@[go_sem] theorem res_163 : Tryz.f163.results = #[ResultVar.tmp 2] := rfl
@[go_sem] theorem res_164 : Tryz.f164.results = #[ResultVar.tmp 2] := rfl
@[go_sem] theorem res_165 : Tryz.f165.results = #[ResultVar.tmp 2] := rfl
@[go_sem] theorem res_166 : Tryz.f166.results = #[ResultVar.tmp 6] := rfl
@[go_sem] theorem res_167 : Tryz.f167.results = #[ResultVar.cell 2 55] := rfl
@[go_sem] theorem res_168 : Tryz.f168.results = #[ResultVar.tmp 4, ResultVar.tmp 5] := rfl
@[go_sem] theorem res_169 : Tryz.f169.results = #[ResultVar.tmp 4] := rfl
@[go_sem] theorem res_170 : Tryz.f170.results = #[ResultVar.tmp 4] := rfl
@[go_sem] theorem res_171 : Tryz.f171.results = #[ResultVar.tmp 4] := rfl
@[go_sem] theorem res_172 : Tryz.f172.results = #[ResultVar.tmp 4] := rfl
@[go_sem] theorem res_173 : Tryz.f173.results = #[ResultVar.tmp 2] := rfl
@[go_sem] theorem res_174 : Tryz.f174.results = #[ResultVar.cell 2 55] := rfl
@[go_sem] theorem res_175 : Tryz.f175.results = #[ResultVar.cell 4 55] := rfl
@[go_sem] theorem res_176 : Tryz.f176.results = #[ResultVar.cell 2 55] := rfl
@[go_sem] theorem res_177 : Tryz.f177.results = #[ResultVar.tmp 4] := rfl
@[go_sem] theorem res_178 : Tryz.f178.results = #[ResultVar.tmp 2] := rfl
@[go_sem] theorem res_179 : Tryz.f179.results = #[ResultVar.tmp 2] := rfl
@[go_sem] theorem res_180 : Tryz.f180.results = #[ResultVar.tmp 2] := rfl
@[go_sem] theorem res_181 : Tryz.f181.results = #[ResultVar.tmp 2] := rfl
@[go_sem] theorem res_182 : Tryz.f182.results = #[ResultVar.tmp 2] := rfl
@[go_sem] theorem res_183 : Tryz.f183.results = #[ResultVar.tmp 2] := rfl
@[go_sem] theorem res_184 : Tryz.f184.results = #[ResultVar.tmp 4] := rfl
@[go_sem] theorem res_185 : Tryz.f185.results = #[ResultVar.tmp 2] := rfl
@[go_sem] theorem res_186 : Tryz.f186.results = #[ResultVar.tmp 2] := rfl
@[go_sem] theorem res_187 : Tryz.f187.results = #[ResultVar.tmp 2] := rfl
@[go_sem] theorem res_188 : Tryz.f188.results = #[ResultVar.tmp 4] := rfl
@[go_sem] theorem res_189 : Tryz.f189.results = #[ResultVar.tmp 6] := rfl
@[go_sem] theorem res_190 : Tryz.f190.results = #[ResultVar.tmp 2] := rfl
@[go_sem] theorem res_191 : Tryz.f191.results = #[ResultVar.cell 4 53] := rfl
@[go_sem] theorem res_192 : Tryz.f192.results = #[ResultVar.tmp 4] := rfl
@[go_sem] theorem res_193 : Tryz.f193.results = #[ResultVar.tmp 4] := rfl
@[go_sem] theorem res_194 : Tryz.f194.results = #[ResultVar.tmp 4] := rfl
@[go_sem] theorem res_195 : Tryz.f195.results = #[ResultVar.tmp 4] := rfl
@[go_sem] theorem res_196 : Tryz.f196.results = #[ResultVar.tmp 4, ResultVar.tmp 5] := rfl
@[go_sem] theorem res_197 : Tryz.f197.results = #[ResultVar.tmp 4] := rfl
@[go_sem] theorem res_198 : Tryz.f198.results = #[ResultVar.tmp 4] := rfl
@[go_sem] theorem res_199 : Tryz.f199.results = #[ResultVar.tmp 4] := rfl
@[go_sem] theorem res_200 : Tryz.f200.results = #[ResultVar.tmp 2] := rfl
@[go_sem] theorem res_201 : Tryz.f201.results = #[ResultVar.tmp 2] := rfl
@[go_sem] theorem res_202 : Tryz.f202.results = #[ResultVar.tmp 2] := rfl
@[go_sem] theorem res_203 : Tryz.f203.results = #[ResultVar.tmp 2] := rfl
@[go_sem] theorem res_204 : Tryz.f204.results = #[ResultVar.tmp 4] := rfl
@[go_sem] theorem res_205 : Tryz.f205.results = #[ResultVar.tmp 4] := rfl
@[go_sem] theorem res_206 : Tryz.f206.results = #[ResultVar.tmp 4] := rfl
@[go_sem] theorem res_207 : Tryz.f207.results = #[ResultVar.tmp 4] := rfl
@[go_sem] theorem res_208 : Tryz.f208.results = #[ResultVar.tmp 4] := rfl
@[go_sem] theorem res_209 : Tryz.f209.results = #[ResultVar.tmp 4, ResultVar.tmp 5] := rfl
@[go_sem] theorem res_210 : Tryz.f210.results = #[ResultVar.tmp 2] := rfl
@[go_sem] theorem res_211 : Tryz.f211.results = #[ResultVar.tmp 4] := rfl
@[go_sem] theorem res_212 : Tryz.f212.results = #[ResultVar.tmp 2] := rfl
@[go_sem] theorem res_213 : Tryz.f213.results = #[ResultVar.cell 2 53] := rfl
@[go_sem] theorem res_214 : Tryz.f214.results = #[] := rfl
@[go_sem] theorem res_215 : Tryz.f215.results = #[ResultVar.tmp 4] := rfl
@[go_sem] theorem res_216 : Tryz.f216.results = #[ResultVar.tmp 4] := rfl
@[go_sem] theorem res_217 : Tryz.f217.results = #[ResultVar.cell 2 53] := rfl
@[go_sem] theorem res_218 : Tryz.f218.results = #[ResultVar.tmp 4] := rfl
@[go_sem] theorem res_219 : Tryz.f219.results = #[ResultVar.tmp 2] := rfl
@[go_sem] theorem res_220 : Tryz.f220.results = #[ResultVar.tmp 2] := rfl
@[go_sem] theorem res_221 : Tryz.f221.results = #[ResultVar.tmp 2] := rfl
@[go_sem] theorem res_222 : Tryz.f222.results = #[ResultVar.tmp 2] := rfl
@[go_sem] theorem res_223 : Tryz.f223.results = #[ResultVar.cell 4 55] := rfl
@[go_sem] theorem res_224 : Tryz.f224.results = #[ResultVar.tmp 2] := rfl
@[go_sem] theorem res_225 : Tryz.f225.results = #[ResultVar.tmp 4] := rfl
@[go_sem] theorem res_226 : Tryz.f226.results = #[ResultVar.tmp 2] := rfl
@[go_sem] theorem res_227 : Tryz.f227.results = #[] := rfl
@[go_sem] theorem res_228 : Tryz.f228.results = #[] := rfl
@[go_sem] theorem res_229 : Tryz.f229.results = #[ResultVar.tmp 4, ResultVar.tmp 5] := rfl
@[go_sem] theorem res_230 : Tryz.f230.results = #[ResultVar.tmp 2] := rfl
@[go_sem] theorem res_231 : Tryz.f231.results = #[ResultVar.tmp 4, ResultVar.tmp 5] := rfl
@[go_sem] theorem res_232 : Tryz.f232.results = #[ResultVar.cell 4 55] := rfl
@[go_sem] theorem res_233 : Tryz.f233.results = #[ResultVar.cell 0 53] := rfl
@[go_sem] theorem res_234 : Tryz.f234.results = #[ResultVar.tmp 2] := rfl
@[go_sem] theorem res_235 : Tryz.f235.results = #[ResultVar.tmp 4] := rfl
@[go_sem] theorem res_236 : Tryz.f236.results = #[ResultVar.tmp 6, ResultVar.tmp 7] := rfl
@[go_sem] theorem res_237 : Tryz.f237.results = #[ResultVar.tmp 2] := rfl
@[go_sem] theorem res_238 : Tryz.f238.results = #[ResultVar.tmp 4] := rfl
@[go_sem] theorem res_239 : Tryz.f239.results = #[ResultVar.tmp 4] := rfl
@[go_sem] theorem res_240 : Tryz.f240.results = #[ResultVar.tmp 2] := rfl
@[go_sem] theorem res_241 : Tryz.f241.results = #[] := rfl
@[go_sem] theorem res_242 : Tryz.f242.results = #[] := rfl
@[go_sem] theorem res_243 : Tryz.f243.results = #[] := rfl
@[go_sem] theorem res_244 : Tryz.f244.results = #[] := rfl
@[go_sem] theorem res_245 : Tryz.f245.results = #[] := rfl
@[go_sem] theorem res_246 : Tryz.f246.results = #[] := rfl
@[go_sem] theorem res_247 : Tryz.f247.results = #[] := rfl
@[go_sem] theorem res_248 : Tryz.f248.results = #[] := rfl
@[go_sem] theorem res_249 : Tryz.f249.results = #[] := rfl
@[go_sem] theorem res_250 : Tryz.f250.results = #[] := rfl
@[go_sem] theorem res_251 : Tryz.f251.results = #[] := rfl
@[go_sem] theorem res_252 : Tryz.f252.results = #[] := rfl
@[go_sem] theorem res_253 : Tryz.f253.results = #[] := rfl
@[go_sem] theorem res_254 : Tryz.f254.results = #[] := rfl
@[go_sem] theorem res_255 : Tryz.f255.results = #[] := rfl
@[go_sem] theorem res_256 : Tryz.f256.results = #[] := rfl
@[go_sem] theorem res_257 : Tryz.f257.results = #[] := rfl
end Gx
end
