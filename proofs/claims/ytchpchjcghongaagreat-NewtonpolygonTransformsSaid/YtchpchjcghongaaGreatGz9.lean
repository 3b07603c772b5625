/- How the calls of each function are taken. -/
import Derived.Test.YtchpchjcghongaaGreatGz8
set_option linter.all false
set_option linter.unusedVariables false
set_option linter.unusedSimpArgs false
set_option linter.unnecessarySimpa false
set_option linter.deprecated false
section
set_option autoImplicit false
namespace Gx
open Go Go.Proofs
/-- Their results bear no address: what they made is forgotten. -/
def md1 : List Nat := [223
, 224
, 292
, 298
, 300
, 301
, 287
, 288
, 324
, 242
, 176
, 222
, 243
, 245
, 299
, 241
, 167
, 150
, 250
, 254
, 305
, 184
, 185
, 188
, 251
, 253
, 181
, 247
, 187
, 270
, 128
, 317
, 325
, 326
, 286
, 285
, 221
, 85
, 173
, 174
, 175
, 88
, 172
, 96
, 162
, 244
, 94
, 171
, 87
, 178
, 246
, 16
, 98
, 18
, 226
, 86
, 271
, 177
, 93
, 170
, 24
, 17
, 101
, 104
, 179
, 23
, 82
, 152
, 100
, 99
, 21
, 22
, 25
, 95
, 97
, 139
, 205
, 206
, 259
, 266
, 310
, 121
, 75
, 144
, 145
, 146
, 207
, 216
, 217
, 218
, 276
, 84
, 83
, 103
, 20
, 30
, 29
, 34
, 68
, 71
, 105
, 106
, 13
, 14
, 69
, 15
, 64
, 169
, 102
, 151
, 67
, 28
, 168
, 166
, 149
, 89
, 164
, 165
, 238
, 240
, 225
, 237
, 291
, 296
, 190
, 192
, 191
, 256
, 239
, 297
, 228
, 293]
/-- Only the slices of their results are kept. -/
def md2 : List Nat := [316
, 290
, 289
, 327
, 319
, 236
, 163
, 81
, 73
, 153
, 31
, 32
, 33
, 72
, 70
, 19
, 26
, 27
, 66
, 90
, 91
, 92
, 65
, 257]
/-- They are not called. -/
def md3 : List Nat := [
133
  ]
def md : Nat → Nat := fun g => if md1.contains g = true then 1 else if md2.contains g = true then 2 else if md3.contains g = true then 3 else 0
end Gx
end
