/- How the calls of each function are taken. -/
import Derived.Test.YtehnbdbhjeffaaaGreatGz10
set_option linter.all false
set_option linter.unusedVariables false
set_option linter.unusedSimpArgs false
set_option linter.unnecessarySimpa false
set_option linter.deprecated false
section
set_option autoImplicit false
namespace Gx
open Go Go.Proofs
def md1 : List Nat := [157
, 158
, 208
, 209
, 205
, 207
, 206
, 210
, 235
, 152
, 201
, 156
, 155
, 162
, 213
, 100
, 101
, 104
, 159
, 161
, 97
, 151
, 103
, 179
, 67
, 231
, 236
, 237
, 240
, 130
, 192
, 193
, 194
, 195
, 196
, 184
, 190
, 225
, 182
, 222
, 76
, 132
, 133
, 191
, 185
, 181
, 221
, 217
, 28
, 135
, 134
, 122
, 77
, 174
, 183
, 131
, 80
, 121
, 123
, 167
, 175
, 223
, 60
, 40
, 85
, 86
, 87
, 139
, 140
, 141
, 197
, 180
, 219
, 220
, 233
, 106
, 108
, 107
, 164
, 143
, 198
, 12
, 15
, 13
, 18
, 64
, 21
, 68
, 70
, 23
, 69
, 78
, 120
, 126
, 128
, 187
, 176
, 232
, 56
, 46
, 58
, 138
, 83
, 59
, 109
, 137
, 166
, 154
, 202
, 203
, 204
, 215
, 88
, 89
, 144
, 150
, 54
, 16
, 65
, 117
, 178
, 118
, 147
, 200
, 26
, 45
, 25
, 43
, 95
, 44
, 34
, 37
, 177
, 218
, 119
, 66
, 94
 ]
def md2 : List Nat := [230
, 212
, 211
, 238
, 229
, 234
, 224
, 165
, 33
, 32
, 57
, 84
, 75
, 98
 ]
def md3 : List Nat := [999999
, 49
 ]
def md4 : List Nat := [999999
, 124
, 146
, 142
, 145
, 154
, 87
, 75
, 40
, 59
 ]
def md0 : Nat → Nat := fun g => if md4.contains g = true then 4 else if md1.contains g = true then 1 else if md2.contains g = true then 2 else if md3.contains g = true then 3 else 0
def md : Md := .plain md0
end Gx
end
