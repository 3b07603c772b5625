/- How the calls of each function are taken. -/
import Derived.Test.YtchpchjcghongaaGz11
set_option linter.all false
set_option linter.unusedVariables false
set_option linter.unusedSimpArgs false
set_option linter.unnecessarySimpa false
set_option linter.deprecated false
section
set_option autoImplicit false
namespace Gx
open Go Go.Proofs
/-- Their results bear no address: what they made is forgotten. -/
def md1 : List Nat := [70
, 71
, 77
, 78
, 80
, 81
, 85
, 86
, 100
, 63
, 53
, 69
, 64
, 67
, 79
, 62
, 46
, 55
, 96
, 101
, 102
, 107
, 37
, 39
, 40
, 41
, 42
, 51
, 50
, 56
, 66
, 93
, 94
, 22
, 25
, 26
, 33
, 38
, 52
, 65
, 82
, 83
, 14
, 10
, 15
, 16
, 32
, 34
, 24
, 7
, 31
, 49
, 20
, 19
, 5
, 11
, 21
, 48
, 35
, 54
, 36
, 17
, 47
, 45
, 27
, 43
, 44
, 59
, 61
, 68
, 58
, 73
, 74
, 75
, 89
, 88
, 98
, 60
, 76
, 97
, 105]
/-- Only the slices of their results are kept. -/
def md2 : List Nat := [95
, 84
, 87
, 103
, 90
, 72
, 57
, 6
, 8
, 23
, 9
, 12
, 13
, 18
, 28
, 29
, 30
, 99]
/-- They are not called. -/
def md3 : List Nat := [
  ]
def md : Nat → Nat := fun g => if md1.contains g = true then 1 else if md2.contains g = true then 2 else if md3.contains g = true then 3 else 0
end Gx
end
