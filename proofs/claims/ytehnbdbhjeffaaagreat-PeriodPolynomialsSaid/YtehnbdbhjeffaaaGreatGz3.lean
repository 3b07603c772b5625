/- A small deterministic interpreter of the model's code over a mini heap: blocks of q0g, numbered in the order of the text. -/
import Derived.Calls
import Derived.Below
import Derived.WalkKit
set_option linter.all false
section
set_option autoImplicit false
namespace Gx
open Go Go.RowKit

structure Blk where
 c : List Value
 sz : Nat
 dead : Bool

abbrev Heap := List Blk
abbrev Env := Nat → Value

def upd (σ : Env) (k : Nat) (v : Value) : Env := fun j => if j = k then v else σ j

def put (σ : Env) : Option Nat → Value → Env
 | some d, v => upd σ d v
 | none, _ => σ

def junk : Value := .chan none

def kok0 : Value → Bool
 | .bool _ | .int _ _ | .string _ | .pointer none | .slice none 0 0 | .nilFunc | .nilIface => true
 | _ => false

def kok : Value → Bool
 | .tuple vs => vs.size == 0
 | v => kok0 v

def ev (σ : Env) : Operand → Value
 | .tmp t => σ t
 | .const v => if kok v then v else junk
 | .global _ => junk
 | .func f => .func (.func f) #[] #[]

def q3d : Value → Option (List Value)
 | .agg cs => some cs.toList
 | .bool b => some [.bool b]
 | .int k n => some [.int k n]
 | .string s => some [.string s]
 | .pointer a => some [.pointer a]
 | .slice a n c => some [.slice a n c]
 | .func f a b => some [.func f a b]
 | .nilFunc => some [.nilFunc]
 | .nilIface => some [.nilIface]
 | _ => none

def q9q : Value → Bool
 | .agg _ | .tuple _ | .chan _ => false
 | _ => true

def q0e (H : Heap) (b : Nat) : Option Blk :=
 match H[b]? with
 | some B => if B.dead then none else some B
 | none => none

def tsz (P : Program) (t : TypeId) : Option Nat := (P.info? t).map (·.size)
def q0r (P : Program) (t : TypeId) : Option Nat := (P.info? t).map (·.bytes)
def q1x (P : Program) (t : TypeId) : Option (List Value) := ((P.info? t).bind (·.zero)).bind fun v => if v.cells.all kok0 then q3d v else none
def tagg (P : Program) (t : TypeId) : Option Bool :=
 match P.underlying t with
 | some (.struct _) | some (.array _ _) => some true
 | some _ => some false
 | none => none
def q0z (P : Program) (t : TypeId) : Option TypeId :=
 match P.underlying t with
 | some (.slice e) => some e
 | _ => none
def tarr (P : Program) (t : TypeId) : Option (Nat × TypeId) :=
 match P.underlying t with
 | some (.array n e) => some (n, e)
 | _ => none
def w0c (P : Program) (t : TypeId) : Option (Array Field) :=
 match P.underlying t with
 | some (.struct fs) => some fs
 | _ => none
def tint (P : Program) (t : TypeId) : Option IntKind :=
 match P.underlying t with
 | some (.int k) => some k
 | _ => none
def tstr (P : Program) (t : TypeId) : Bool :=
 match P.underlying t with
 | some .string => true
 | _ => false
def q5h (P : Program) (t : TypeId) (i : Nat) : Option (Nat × TypeId) := (w0c P t).bind fun fs => (fs[i]?).map fun f => (f.offset, f.type)
def q1z (P : Program) (t : TypeId) : Option Nat :=
 match tarr P t with
 | some (_, e) => tsz P e
 | none => tsz P t

def isub (c : List Value) (o n : Nat) : Option (List Value) := if o + n ≤ c.length then some ((c.drop o).take n) else none

def q2n (P : Program) (H : Heap) (t : TypeId) : Value → Option Value
 | .pointer (some ⟨b, o, none⟩) =>
  match q0e H b, tsz P t, tagg P t with
  | some B, some n, some true => (isub B.c o n).map fun cs => .agg cs.toArray
  | some B, some _, some false => B.c[o]?
  | _, _, _ => none
 | _ => none

def iput (c : List Value) (o : Nat) (vs : List Value) : List Value := c.take o ++ vs ++ c.drop (o + vs.length)

def q3c (P : Program) (lk : Nat) (H : Heap) (t : TypeId) (a v : Value) : Option Heap :=
 match a, q3d v, tsz P t with
 | .pointer (some ⟨b, o, none⟩), some vs, some n =>
  match q0e H b with
  | some B => if lk ≤ b ∧ vs.length = n ∧ o + n ≤ B.c.length then some (H.set b { B with c := iput B.c o vs }) else none
  | none => none
 | _, _, _ => none

def inew (H : Heap) (c : List Value) (sz : Nat) : Value × Heap := (.pointer (some ⟨H.length, 0, none⟩), H ++ [⟨c, sz, false⟩])

def q7d (place : Nat → Option (Nat × Nat)) (q0g : List Value) : List (Nat × Value) → Option (List Value)
 | [] => some q0g
 | (i, v) :: rest =>
  match place i, q3d v with
  | some (off, size), some vs => if vs.length = size ∧ off + size ≤ q0g.length then q7d place (iput q0g off vs) rest else none
  | _, _ => none

def q7q (P : Program) (t : TypeId) : Option (List (Nat × Nat)) := (w0c P t).bind fun fs => fs.toList.mapM fun f => (tsz P f.type).map fun n => (f.offset, n)

def ibuild (P : Program) (t : TypeId) (parts : List (Nat × Value)) : Option Value :=
 match q1x P t, q7q P t, tarr P t with
 | some zs, some pl, _ => (q7d (fun i => pl[i]?) zs parts).map fun cs => .agg cs.toArray
 | some zs, none, some (_, e) => match tsz P e with
  | some n => (q7d (fun i => some (i * n, n)) zs parts).map fun cs => .agg cs.toArray
  | none => none
 | _, _, _ => none

def reps (z : List Value) : Nat → List Value
 | 0 => []
 | n + 1 => z ++ reps z n

def q2e (P : Program) (H : Heap) (t : TypeId) (len : Nat) (parts : List (Nat × Value)) : Option (Value × Heap) :=
 match q0z P t with
 | none => none
 | some e =>
  match tsz P e, q1x P e with
  | some n, some zs =>
   if 0 < n ∧ zs.length = n ∧ len * n ≤ 16777216 then
    match q7d (fun i => some (i * n, n)) (reps zs len) parts with
    | some cs => some (.slice (some ⟨H.length, 0, none⟩) len len, H ++ [⟨cs, n, false⟩])
    | none => none
   else none
  | _, _ => none

def q4h (P : Program) (H : Heap) (t : TypeId) : Value → Value → Option (Value × Heap)
 | .int .i64 l, .int .i64 c =>
  match q0z P t with
  | none => none
  | some e =>
   match tsz P e, q0r P e, q1x P e with
   | some n, some b, some zs =>
    if 0 < n ∧ zs.length = n ∧ 0 ≤ l ∧ l ≤ c ∧ (b : Int) * c ≤ 281474976710656 ∧ c < 4611686018427387904 then
     some (.slice (some ⟨H.length, 0, none⟩) l.toNat l.toNat, H ++ [⟨reps zs l.toNat, n, false⟩])
    else none
   | _, _, _ => none
 | _, _ => none

def q2l : Option Value → Option (Option Nat)
 | none => some none
 | some (.int _ n) => if 0 ≤ n then some (some n.toNat) else none
 | _ => none

def q4w (P : Program) (H : Heap) (t : TypeId) (x : Value) (lo hi mx : Option Value) : Option Value :=
 match q2l lo, q2l hi, q2l mx with
 | some lo, some hi, some mx =>
  match x with
  | .string s =>
   if tstr P t = true ∧ mx = none then
    let h := hi.getD s.size
    let l := lo.getD 0
    if l ≤ h ∧ h ≤ s.size then some (.string (s.extract l h)) else none
   else none
  | .slice none 0 0 =>
   if ((q0z P t).bind (tsz P)).isSome ∧ lo.getD 0 = 0 ∧ hi.getD 0 = 0 ∧ mx.getD 0 = 0 ∧ (hi.isSome ∨ mx = none) then some (.slice none 0 0) else none
  | .slice (some ⟨b, o, none⟩) n m =>
   match q0z P t with
   | none => none
   | some e =>
    match tsz P e, H[b]? with
    | some k, some B =>
     let h := hi.getD n
     let l := lo.getD 0
     let c := mx.getD n
     if B.sz = k ∧ n = m ∧ l ≤ h ∧ h ≤ c ∧ c ≤ n ∧ (hi.isSome ∨ mx = none) then some (.slice (some ⟨b, o + l * k, none⟩) (h - l) (h - l)) else none
    | _, _ => none
  | .pointer (some ⟨b, o, none⟩) =>
   match tarr P t with
   | none => none
   | some (n, e) =>
    match tsz P e, q0e H b with
    | some k, some B =>
     let h := hi.getD n
     let l := lo.getD 0
     if B.sz = k ∧ 0 < k ∧ l ≤ h ∧ h ≤ n ∧ mx = none ∧ o + n * k ≤ B.c.length then some (.slice (some ⟨b, o + l * k, none⟩) (h - l) (h - l)) else none
    | _, _ => none
  | _ => none
 | _, _, _ => none

def q3l (P : Program) (t : TypeId) (x : Value) (i : Nat) : Option Value :=
 match x, q5h P t i with
 | .pointer (some ⟨b, o, none⟩), some (off, u) =>
  match tsz P u with
  | some n => if n = 0 then none else some (.pointer (some ⟨b, o + off, none⟩))
  | none => none
 | _, _ => none

def ipart (P : Program) (t : TypeId) (cs : List Value) (o : Nat) : Option Value :=
 match tagg P t, tsz P t with
 | some true, some n => (isub cs o n).map fun l => .agg l.toArray
 | some false, _ => cs[o]?
 | _, _ => none

def w3q (P : Program) (t : TypeId) (x : Value) (i : Nat) : Option Value :=
 match x, q5h P t i with
 | .agg cs, some (off, u) => ipart P u cs.toList off
 | _, _ => none

def q0i (P : Program) (t : TypeId) (x ix : Value) : Option Value :=
 match ix with
 | .int _ i =>
  match x with
  | .slice (some ⟨b, o, none⟩) n m =>
   match q0z P t with
   | some e => match tsz P e with
    | some k => if 0 ≤ i ∧ i < n ∧ n = m then some (.pointer (some ⟨b, o + i.toNat * k, none⟩)) else none
    | none => none
   | none => none
  | .pointer (some ⟨b, o, none⟩) =>
   match tarr P t with
   | some (n, e) => match tsz P e with
    | some k => if 0 ≤ i ∧ i < n then some (.pointer (some ⟨b, o + i.toNat * k, none⟩)) else none
    | none => none
   | none => none
  | _ => none
 | _ => none

def byt (s : ByteArray) (i : Nat) : Int := if h : i < s.size then (s[i].toNat : Int) else 0

def w3p (P : Program) (t : TypeId) (x ix : Value) : Option Value :=
 match x, ix with
 | .string s, .int _ i => if tstr P t = true ∧ 0 ≤ i ∧ i < s.size then some (.int .u8 (byt s i.toNat)) else none
 | .agg cs, .int _ i =>
  match tarr P t with
  | some (n, e) => match tsz P e with
   | some k => if 0 ≤ i ∧ i < n then ipart P e cs.toList (i.toNat * k) else none
   | none => none
  | none => none
 | _, _ => none

def ilen (P : Program) (t : TypeId) (x : Value) : Option Value :=
 match x with
 | .string s => if tstr P t then some (.int .i64 s.size) else none
 | .slice _ n _ => if (q0z P t).isSome then some (.int .i64 n) else none
 | .agg _ => (tarr P t).map fun a => .int .i64 a.1
 | _ => none

def q9r (H : Heap) (k n : Nat) : Value → Option (List Value)
 | .slice none 0 0 => if n = 0 then some [] else none
 | .slice (some ⟨b, o, none⟩) m c => if n ≤ m ∧ m = c then (if n = 0 then some [] else match q0e H b with
   | some B => if B.sz = k then isub B.c o (n * k) else none
   | none => none) else none
 | _ => none

def ilenOf : Value → Option Nat
 | .slice _ n _ => some n
 | _ => none

def q5j (P : Program) (H : Heap) (e t2 : TypeId) (s x : Value) : Option (Value × Heap) :=
 match x, s, tint P t2 with
 | .int .i64 l, .slice none 0 0, some _ =>
  match tsz P e, q0r P e, q1x P e with
  | some k, some by_, some zs =>
   if 0 < k ∧ zs.length = k ∧ 0 < by_ ∧ 0 < l ∧ l ≤ 9223372036854775807 ∧ l.toNat * by_ ≤ 70368744177664 then some (.slice (some ⟨H.length, 0, none⟩) l.toNat l.toNat, H ++ [⟨reps zs l.toNat, k, false⟩]) else none
  | _, _, _ => none
 | _, _, _ => none

def icap (P : Program) (t : TypeId) (x : Value) : Option Value :=
 match x with
 | .slice none 0 0 => if (q0z P t).isSome then some (.int .i64 0) else none
 | _ => none

def q2u (P : Program) (lk : Nat) (H : Heap) (t t2 : TypeId) (s x : Value) : Option (Value × Heap) :=
 match q0z P t, q0z P t2 with
 | some e, some _ =>
  match tsz P e, q0r P e, q1x P e, ilenOf x with
  | some k, some by_, some zs, some n =>
   match q9r H k n x with
   | none => none
   | some new =>
    if 0 < k ∧ zs.length = k ∧ 0 < by_ then
     match s with
     | .slice none 0 0 => if n * by_ ≤ 70368744177664 then
       (if n = 0 then some (.slice none 0 0, H) else some (.slice (some ⟨H.length, 0, none⟩) n n, H ++ [⟨new, k, false⟩])) else none
     | .slice (some ⟨b, o, some e⟩) 0 0 => if n * by_ ≤ 70368744177664 then
       (if n = 0 then some (.slice (some ⟨b, o, some e⟩) 0 0, H) else some (.slice (some ⟨H.length, 0, none⟩) n n, H ++ [⟨new, k, false⟩])) else none
     | .slice (some ⟨b, o, none⟩) m c =>
      match q0e H b with
      | some B =>
       if m = c ∧ B.sz = k ∧ lk ≤ b ∧ (m + n) * by_ ≤ 70368744177664 ∧ o + m * k ≤ B.c.length then
        some (.slice (some ⟨H.length, 0, none⟩) (m + n) (m + n), H.set b { B with dead := true } ++ [⟨(B.c.drop o).take (m * k) ++ new, k, false⟩])
       else none
      | none => none
     | _ => none
    else none
  | _, _, _, _ => none
 | some e, none => q5j P H e t2 s x
 | _, _ => none

def q6t (op : BinOp) (k : IntKind) (x y : Int) : Option Value :=
 let a := BitVec.ofInt k.bits x
 let b := BitVec.ofInt k.bits y
 match op with
 | .and => some (.int k (k.wrap (a &&& b).toNat))
 | .or => some (.int k (k.wrap (a ||| b).toNat))
 | .xor => some (.int k (k.wrap (a ^^^ b).toNat))
 | .andNot => some (.int k (k.wrap (a &&& ~~~b).toNat))
 | _ => none

def flatFs (g : TypeId → Option (List Nat)) : List Field → Nat → Option (List Nat)
 | [], _ => some []
 | f :: r, acc =>
  if f.name ≠ "_" ∧ f.offset = acc then
   match g f.type with
   | some ks => (flatFs g r (acc + ks.length)).map (ks ++ ·)
   | none => none
  else none

def flatK (P : Program) : Nat → TypeId → Option (List Nat)
 | 0, _ => none
 | d + 1, t =>
  match P.underlying t with
  | some .bool => if tsz P t = some 1 then some [0] else none
  | some (.int _) => if tsz P t = some 1 then some [1] else none
  | some .string => if tsz P t = some 1 then some [2] else none
  | some (.struct fs) =>
   if P.stoodInHeld t = true then none else
   match flatFs (flatK P d) fs.toList 0 with
   | some ks => if tsz P t = some ks.length then some ks else none
   | none => none
  | _ => none

def q5m (P : Program) (t : TypeId) : Option (List Nat) := match w0c P t with
 | some _ => flatK P 100 t
 | none => none

def q0q : List Nat → List Value → List Value → Option Bool
 | [], [], [] => some true
 | 0 :: ks, .bool a :: xs, .bool b :: ys => (q0q ks xs ys).map fun r => (a == b) && r
 | 1 :: ks, .int k a :: xs, .int k' b :: ys => if k = k' then (q0q ks xs ys).map fun r => (a == b) && r else none
 | 2 :: ks, .string a :: xs, .string b :: ys => (q0q ks xs ys).map fun r => (a.toList == b.toList) && r
 | _, _, _ => none

def tbool (P : Program) (t : TypeId) : Bool :=
 match P.underlying t with
 | some .bool => true
 | _ => false

def ibin (P : Program) (op : BinOp) (t : TypeId) (x y : Value) : Option Value :=
 match op, x, y with
 | .add, .int k a, .int k' b => if k = k' then some (.int k (k.wrap (a + b))) else none
 | .sub, .int k a, .int k' b => if k = k' then some (.int k (k.wrap (a - b))) else none
 | .mul, .int k a, .int k' b => if k = k' then some (.int k (k.wrap (a * b))) else none
 | .quo, .int k a, .int k' b => if k = k' ∧ b ≠ 0 then some (.int k (k.wrap (a.tdiv b))) else none
 | .rem, .int k a, .int k' b => if k = k' ∧ b ≠ 0 then some (.int k (a.tmod b)) else none
 | .shl, .int k a, .int _ b => if 0 ≤ b then some (.int k (k.wrap (a * 2 ^ (min b.toNat k.bits)))) else none
 | .shr, .int k a, .int _ b => if 0 ≤ b then some (.int k (a.fdiv (2 ^ (min b.toNat k.bits)))) else none
 | .and, .int k a, .int k' b => if k = k' then q6t .and k a b else none
 | .or, .int k a, .int k' b => if k = k' then q6t .or k a b else none
 | .xor, .int k a, .int k' b => if k = k' then q6t .xor k a b else none
 | .andNot, .int k a, .int k' b => if k = k' then q6t .andNot k a b else none
 | .eql, .int k a, .int k' b => if k = k' then some (.bool (a == b)) else none
 | .neq, .int k a, .int k' b => if k = k' then some (.bool (a != b)) else none
 | .lss, .int k a, .int k' b => if k = k' then some (.bool (a < b)) else none
 | .leq, .int k a, .int k' b => if k = k' then some (.bool (a ≤ b)) else none
 | .gtr, .int k a, .int k' b => if k = k' then some (.bool (a > b)) else none
 | .geq, .int k a, .int k' b => if k = k' then some (.bool (a ≥ b)) else none
 | .add, .string a, .string b => if a.size + b.size ≤ 4611686018427387904 then some (.string (a ++ b)) else none
 | .eql, .string a, .string b => some (.bool (a.toList == b.toList))
 | .neq, .string a, .string b => some (.bool !(a.toList == b.toList))
 | .lss, .string a, .string b => some (.bool (Go.Op.bytesLess a.toList b.toList))
 | .leq, .string a, .string b => some (.bool (Go.Op.bytesLess a.toList b.toList || a.toList == b.toList))
 | .gtr, .string a, .string b => some (.bool !(Go.Op.bytesLess a.toList b.toList || a.toList == b.toList))
 | .geq, .string a, .string b => some (.bool !(Go.Op.bytesLess a.toList b.toList))
 | .eql, .bool a, .bool b => if tbool P t = true then some (.bool (a == b)) else none
 | .neq, .bool a, .bool b => if tbool P t = true then some (.bool (!(a == b))) else none
 | .eql, .agg xs, .agg ys => match q5m P t with
  | some ks => (q0q ks xs.toList ys.toList).map fun b => .bool b
  | none => none
 | .neq, .agg xs, .agg ys => match q5m P t with
  | some ks => (q0q ks xs.toList ys.toList).map fun b => .bool (!b)
  | none => none
 | .eql, .slice a _ _, .slice none 0 0 => if (q0z P t).isSome then some (.bool a.isNone) else none
 | .neq, .slice a _ _, .slice none 0 0 => if (q0z P t).isSome then some (.bool (!a.isNone)) else none
 | _, _, _ => none

def iun (op : UnOp) (x : Value) : Option Value :=
 match op, x with
 | .neg, .int k n => some (.int k (k.wrap (0 - n)))
 | .xor, .int k n => q6t .xor k (if k.signed then -1 else k.max) n
 | .not, .bool b => some (.bool !b)
 | _, _ => none

def q5u : List Value → Option (List UInt8)
 | [] => some []
 | .int .u8 n :: r => (q5u r).map (UInt8.ofNat n.toNat :: ·)
 | _ => none

def q4p (P : Program) (H : Heap) (src dst : TypeId) (x : Value) : Option (Value × Heap) :=
 match x with
 | .int _ n => match tint P src, tint P dst with
  | some _, some k => some (.int k (k.wrap n), H)
  | _, _ => none
 | .string s =>
  if tstr P src then
   if tstr P dst then some (.string s, H)
   else match q0z P dst with
    | some e => if tint P e = some .u8 then if tsz P e = some 1 then some (.slice (some ⟨H.length, 0, none⟩) s.size s.size, H ++ [⟨s.toList.map fun b => .int .u8 b.toNat, 1, false⟩]) else none else none
    | none => none
  else none
 | .slice _ n _ =>
  match q0z P src with
  | some e => if tint P e = some .u8 ∧ tstr P dst = true then
    match q9r H 1 n x with
    | some cs => (q5u cs).map fun l => (.string ⟨l.toArray⟩, H)
    | none => none
   else none
  | none => none
 | _ => none

def imax2 : Value → Value → Option Value
 | .int k x, .int k' y => if k = k' then some (.int k (if y > x then y else x)) else none
 | _, _ => none
def imin2 : Value → Value → Option Value
 | .int k x, .int k' y => if k = k' then some (.int k (if y < x then y else x)) else none
 | _, _ => none
def ifold (f : Value → Value → Option Value) : Value → List Value → Option Value
 | x, [] => some x
 | x, y :: r => match f x y with
  | some z => ifold f z r
  | none => none

def w0p (name : String) (args : List Value) : Option Value :=
 match args with
 | [.int .u64 x, .int .u64 y, .int .u64 c] =>
  if 0 ≤ x ∧ 0 ≤ y ∧ 0 ≤ c ∧ c ≤ 1 then
   if name = "math/bits.Add64" then some (.tuple #[.int .u64 ((x + y + c) % 18446744073709551616), .int .u64 ((x + y + c) / 18446744073709551616)])
   else if name = "math/bits.Sub64" then (if y ≤ 18446744073709551615 then some (.tuple #[.int .u64 ((x + 18446744073709551616 - y - c) % 18446744073709551616), .int .u64 (if x < y + c then 1 else 0)]) else none)
   else none
  else none
 | _ => none

abbrev q0l := Nat → FuncId → List Value → Heap → Option (Value × Heap)

def q3g (P : Program) (call : q0l) (lk : Nat) (f : FuncId) (args : List Value) (H : Heap) : Option (Value × Heap) :=
 match P.funcs[f]? with
 | none => none
 | some fn =>
  if fn.body.isSome then call lk f args H
  else if fn.origin ≠ "" then none
  else (w0p fn.name args).map fun v => (v, H)

def iop (P : Program) (call : q0l) (lk : Nat) (o : Op) (σ : Env) (H : Heap) : Option (Value × Heap) :=
 match o with
 | .move x | .assign x => some (ev σ x, H)
 | .pick c a b => match ev σ c with
  | .bool t => some (if t then ev σ a else ev σ b, H)
  | _ => none
 | .alloc t => match q1x P t, tsz P t, q1z P t with
  | some zs, some n, some k => if zs.length = n then some (inew H zs k) else none
  | _, _, _ => none
 | .box t x => match q3d (ev σ x), tsz P t, q1z P t with
  | some cs, some n, some k => if cs.length = n then some (inew H cs k) else none
  | _, _, _ => none
 | .build t parts => (ibuild P t (parts.toList.map fun (i, x) => (i, ev σ x))).map fun v => (v, H)
 | .buildSlice t len parts => q2e P H t len (parts.toList.map fun (i, x) => (i, ev σ x))
 | .load t a => (q2n P H t (ev σ a)).map fun v => (v, H)
 | .store t a x => (q3c P lk H t (ev σ a) (ev σ x)).map fun H' => (undef, H')
 | .nilCheck x => match ev σ x with
  | .pointer (some a) => some (.pointer (some a), H)
  | .func (.func f) first cap => some (.func (.func f) first cap, H)
  | _ => none
 | .binOp op t x y _ => (ibin P op t (ev σ x) (ev σ y)).map fun v => (v, H)
 | .unOp op _ x => (iun op (ev σ x)).map fun v => (v, H)
 | .convert s d x => q4p P H s d (ev σ x)
 | .makeFunc (.func f) first cap => if first.size = 0 ∧ (cap.toList.map (ev σ)).all q9q = true then some (.func (.func f) #[] (cap.toList.map (ev σ)).toArray, H) else none
 | .makeSlice t l c => q4h P H t (ev σ l) (ev σ c)
 | .slice t x lo hi mx => (q4w P H t (ev σ x) (lo.map (ev σ)) (hi.map (ev σ)) (mx.map (ev σ))).map fun v => (v, H)
 | .fieldAddr t x i => (q3l P t (ev σ x) i).map fun v => (v, H)
 | .field t x i => (w3q P t (ev σ x) i).map fun v => (v, H)
 | .indexAddr t x ix => (q0i P t (ev σ x) (ev σ ix)).map fun v => (v, H)
 | .index t x ix => (w3p P t (ev σ x) (ev σ ix)).map fun v => (v, H)
 | .extract x i => match ev σ x with
  | .tuple vs => (vs[i]?).map fun v => (v, H)
  | _ => none
 | .call c =>
  match c.callee with
  | .value f => match ev σ f with
   | .func (.func g) first cap => if first.size = 0 then q3g P call lk g (c.args.toList.map (ev σ) ++ cap.toList) H else none
   | _ => none
  | .builtin .len => match c.args.toList, c.argTypes.toList with
   | [x], [t] => (ilen P t (ev σ x)).map fun v => (v, H)
   | _, _ => none
  | .builtin .cap => match c.args.toList, c.argTypes.toList with
   | [x], [t] => (icap P t (ev σ x)).map fun v => (v, H)
   | _, _ => none
  | .builtin .append => match c.args.toList, c.argTypes.toList with
   | [s, x], [t, t2] => q2u P lk H t t2 (ev σ s) (ev σ x)
   | _, _ => none
  | .builtin .max => match c.args.toList with
   | x :: r => (ifold imax2 (ev σ x) (r.map (ev σ))).map fun v => (v, H)
   | _ => none
  | .builtin .min => match c.args.toList with
   | x :: r => (ifold imin2 (ev σ x) (r.map (ev σ))).map fun v => (v, H)
   | _ => none
  | _ => none
 | _ => none

def litOp (d : Nat) (q : Oper) : Bool := match q.op with
 | .buildSlice _ n _ => n == 0 && q.dst == some d
 | _ => false
def toLit (ops : Array Oper) : List Operand → Bool
 | .tmp d :: _ => ops.toList.any (litOp d)
 | _ => false
def loud (ops : Array Oper) : Op → Bool
 | .store .. => true
 | .call { callee := .builtin .append, args := xs, .. } => !toLit ops xs.toList
 | _ => false

def w3z (ops : Array Oper) (o : Oper) (σ : Env) : Option Bool :=
 match o.guard with
 | none => some true
 | some (j, want) =>
  match (ops[j]?).bind (·.dst) with
  | some d => match σ d with
   | .bool b => some (b == want)
   | .tuple _ => some false
   | _ => none
  | none => some false

def lit0 : Value := .slice (some ⟨0, 0, some 0⟩) 0 0
def isLit : Op → Bool
 | .buildSlice _ n _ => n == 0
 | _ => false
def litR (draw : Bool) (op : Op) (r : Value × Heap) : Value × Heap := bif isLit op && draw then (lit0, r.2) else r
theorem w2w (op : Op) (r : Value × Heap) : litR false op r = r := by unfold litR; rw [Bool.and_false]; rfl
theorem litR_2 (draw : Bool) (op : Op) (r : Value × Heap) : (litR draw op r).2 = r.2 := by unfold litR; cases isLit op && draw <;> rfl
theorem w4k {draw : Bool} {op : Op} (h : isLit op = false) (r : Value × Heap) : litR draw op r = r := by unfold litR; rw [h]; rfl
theorem q8e {draw : Bool} {op : Op} {x : Option (Value × Heap)} {v : Value} {H : Heap} (h : x.map (litR draw op) = some (v, H)) : ∃ v0, x = some (v0, H) ∧ litR draw op (v0, H) = (v, H) := by
 obtain ⟨⟨v0, H0⟩, h1, h2⟩ := Option.map_eq_some_iff.1 h
 have h3 := litR_2 draw op (v0, H0)
 rw [h2] at h3
 simp only at h3
 subst h3
 exact ⟨v0, h1, h2⟩

def q4g (P : Program) (call : q0l) (lk : Nat) (draw : Bool) (ops : Array Oper) (o : Oper) (σ : Env) (H : Heap) : Option (Value × Heap) :=
 match w3z ops o σ with
 | none => none
 | some false => some (undef, H)
 | some true => (iop P call (if draw && !loud ops o.op then H.length else lk) o.op σ H).map (litR draw o.op)

def iops (P : Program) (call : q0l) (lk : Nat) (draw : Bool) (ops : Array Oper) : List Oper → Env → Heap → Option (Env × Heap)
 | [], σ, H => some (σ, H)
 | o :: r, σ, H => match q4g P call lk draw ops o σ H with
  | some (v, H') => iops P call lk draw ops r (put σ o.dst v) H'
  | none => none

inductive Ex where
 | normal
 | exit (id : Nat)
 | ret

def ires1 (P : Program) (σ : Env) (H : Heap) : ResultVar → Option Value
 | .tmp t => some (σ t)
 | .cell a t => q2n P H t (σ a)

def iresL (P : Program) (σ : Env) (H : Heap) : List ResultVar → Option (List Value)
 | [] => some []
 | x :: r => match ires1 P σ H x, iresL P σ H r with
  | some v, some vs => some (v :: vs)
  | _, _ => none

def ires (P : Program) (fn : Func) (σ : Env) (H : Heap) : Option Value :=
 match fn.results.toList with
 | [x] => ires1 P σ H x
 | l => (iresL P σ H l).map fun vs => .tuple vs.toArray

def q4j (args : List Value) : Env := fun j => args.getD j undef

def ancL : List Oper → List Nat → List Nat
 | [], acc => acc
 | o :: r, acc => ancL r (acc ++ [o.after.toList.foldl (fun s e => if Region.binds .any e then s ||| 2 ^ e.on ||| acc.getD e.on 0 else s) 0])

def q2k : Op → Bool
 | .move _ | .assign _ | .pick .. | .extract .. | .binOp .. | .unOp .. | .build .. | .fieldAddr .. | .field .. | .indexAddr .. | .index .. => true
 | _ => false

def w2s (ops : Array Oper) (o : Oper) : List Nat :=
 o.op.operands.toList.filterMap (fun | .tmp t => some t | _ => none) ++ (match o.guard with
  | some (j, _) => ((ops[j]?).bind (·.dst)).toList
  | none => [])

def cmpAnc (b : List Nat) (i j : Nat) : Bool := if i < j then (b.getD j 0).testBit i else if j < i then (b.getD i 0).testBit j else false

def drawOk (ops : Array Oper) : Bool :=
 let b := ancL ops.toList []
 ops.toList.zipIdx.all fun (o, i) =>
  o.after.toList.all (fun e => !Region.binds .any e || e.on < i) &&
  ops.toList.zipIdx.all fun (q, j) =>
   (i == j || !loud ops o.op || q2k q.op || cmpAnc b i j) &&
   match q.dst with
   | none => true
   | some d => (i == j || o.dst != some d) && (!(w2s ops o).contains d || cmpAnc b i j)

def kok1 : Value → Bool
 | .agg cs => cs.toList.all kok0
 | v => kok0 v
def kokV : Value → Bool
 | .tuple vs => vs.toList.all kok1
 | v => kok1 v

def q2f (H' : Heap) (n0 : Nat) (s : List Nat × List Blk) (v : Value) : Option (Value × (List Nat × List Blk)) :=
 match v with
 | .slice (some ⟨b, o, none⟩) n m =>
  if b < n0 then (if n = m then some (v, s) else none) else
  match q0e H' b with
  | some B =>
   if n = m ∧ o + n * B.sz ≤ B.c.length ∧ s.1.contains b = false ∧ ((B.c.drop o).take (n * B.sz)).all kok0 = true then
    some (.slice (some ⟨n0 + s.2.length, 0, none⟩) n n, (b :: s.1, s.2 ++ [⟨(B.c.drop o).take (n * B.sz), B.sz, false⟩]))
   else none
  | none => none
 | v => if kok0 v then some (v, s) else none

def q8k (H' : Heap) (n0 : Nat) : List Nat × List Blk → List Value → Option (List Value × (List Nat × List Blk))
 | s, [] => some ([], s)
 | s, v :: r =>
  match q2f H' n0 s v with
  | some (v', s') =>
   match q8k H' n0 s' r with
   | some (r', s'') => some (v' :: r', s'')
   | none => none
  | none => none

def w1w (H' : Heap) (n0 : Nat) (s : List Nat × List Blk) (v : Value) : Option (Value × (List Nat × List Blk)) :=
 match v with
 | .agg cs => (q8k H' n0 s cs.toList).map fun x => (.agg x.1.toArray, x.2)
 | v => q2f H' n0 s v

def q6d (H' : Heap) (n0 : Nat) : List Nat × List Blk → List Value → Option (List Value × (List Nat × List Blk))
 | s, [] => some ([], s)
 | s, v :: r =>
  match w1w H' n0 s v with
  | some (v', s') =>
   match q6d H' n0 s' r with
   | some (r', s'') => some (v' :: r', s'')
   | none => none
  | none => none

def q4i (H' : Heap) (n0 : Nat) (v : Value) : Option (Value × List Blk) :=
 match v with
 | .tuple vs => (q6d H' n0 ([], []) vs.toList).map fun x => (.tuple x.1.toArray, x.2.2)
 | v => (w1w H' n0 ([], []) v).map fun x => (x.1, x.2.2)

def kidx : List Nat → Nat → Option Nat
 | [], _ => none
 | k :: ks, b => bif Nat.beq k b then some 0 else (kidx ks b).map (· + 1)
def ren0 (ks : List Nat) (n0 : Nat) : Value → Option Value
 | .pointer (some ⟨b, o, none⟩) => (kidx ks b).map fun j => .pointer (some ⟨n0 + j, o, none⟩)
 | .slice (some ⟨b, o, none⟩) n m => if n = m then (kidx ks b).map fun j => .slice (some ⟨n0 + j, o, none⟩) n n else none
 | v => if kok0 v then some v else none
def renL (ks : List Nat) (n0 : Nat) : List Value → Option (List Value)
 | [] => some []
 | v :: r => match ren0 ks n0 v, renL ks n0 r with
  | some v', some r' => some (v' :: r')
  | _, _ => none
def ren1 (ks : List Nat) (n0 : Nat) : Value → Option Value
 | .agg cs => (renL ks n0 cs.toList).map fun l => .agg l.toArray
 | v => ren0 ks n0 v
def ren1L (ks : List Nat) (n0 : Nat) : List Value → Option (List Value)
 | [] => some []
 | v :: r => match ren1 ks n0 v, ren1L ks n0 r with
  | some v', some r' => some (v' :: r')
  | _, _ => none
def renV (ks : List Nat) (n0 : Nat) : Value → Option Value
 | .tuple vs => (ren1L ks n0 vs.toList).map fun l => .tuple l.toArray
 | v => ren1 ks n0 v
def renB (H' : Heap) (ks0 : List Nat) (n0 : Nat) : List Nat → Option (List Blk)
 | [] => some []
 | k :: ks => match q0e H' k, renB H' ks0 n0 ks with
  | some B, some r => (renL ks0 n0 B.c).map fun c => ⟨c, B.sz, false⟩ :: r
  | _, _ => none
def nodupN : List Nat → Bool
 | [] => true
 | k :: ks => !ks.contains k && nodupN ks
def namesB : List Value → List Nat
 | [] => []
 | .pointer (some a) :: r => a.block :: namesB r
 | .slice (some a) _ _ :: r => a.block :: namesB r
 | _ :: r => namesB r
def valCells : Value → List Value
 | .agg cs => cs.toList
 | v => [v]
def valCellsV : Value → List Value
 | .tuple vs => vs.toList.flatMap valCells
 | v => valCells v
def reachB (H' : Heap) : Nat → List Nat → List Nat → List Nat
 | 0, _, done => done
 | _ + 1, [], done => done
 | n + 1, b :: todo, done => bif done.contains b then reachB H' n todo done else match q0e H' b with
  | some B => reachB H' n (todo ++ namesB B.c) (done ++ [b])
  | none => done
def closeV (n0 : Nat) (v : Value) (H' : Heap) : Option (Value × Heap) :=
 let ks := reachB H' 100000 (namesB (valCellsV v)) []
 bif nodupN ks then match renV ks n0 v, renB H' ks n0 ks with
  | some v', some N => some (v', N)
  | _, _ => none
 else none

def q3p (c c' : q0l) : Prop := ∀ lk g args H r, c lk g args H = some r → c' lk g args H = some r
def Stab (lk : Nat) (H H' : Heap) : Prop := H.length ≤ H'.length ∧ ∀ b : Nat, b < lk → b < H.length → H'[b]? = H[b]?
def q1a (call : q0l) : Prop := ∀ lk g args H v H', call lk g args H = some (v, H') → Stab lk H H'

structure Md where
 k : FuncId → Nat
 orc : q0l → q0l
 mono : ∀ c c', q3p c c' → q3p (orc c) (orc c')
 stab : ∀ c, q1a c → q1a (orc c)
instance : CoeFun Md (fun _ => FuncId → Nat) := ⟨Md.k⟩
def noOrc : q0l → q0l := fun _ _ _ _ _ => none
def Md.plain (k : FuncId → Nat) : Md := ⟨k, noOrc, (fun _ _ _ _ _ _ _ _ h => nomatch h), (fun _ _ _ _ _ _ _ _ h => nomatch h)⟩

def q3q (md : Md) (call : q0l) : q0l := fun lk g args H =>
 match md g with
 | 1 => match call H.length g args H with
  | some (v, _) => if kokV v then some (v, H) else none
  | none => none
 | 2 => match call H.length g args H with
  | some (v, H') => match q4i H' H.length v with
   | some (v', N) => some (v', H ++ N)
   | none => none
  | none => none
 | 3 => none
 | 4 => if args.all kok1 then match call 0 g args [] with
   | some (v, H') => match closeV H.length v H' with
    | some (v', N) => some (v', H ++ N)
    | none => none
   | none => none
  else none
 | 5 => none
 | _ => call lk g args H
def wrap (md : Md) (call : q0l) : q0l := fun lk g args H =>
 match md g with
 | 5 => md.orc (q3q md call) lk g args H
 | _ => q3q md call lk g args H

def q0s (P : Program) (md : Md) : Nat → Nat → Code → Env → Heap → Option (Ex × Env × Heap)
 | 0, _, _, _, _ => none
 | n + 1, lk, c, σ, H =>
  match c with
  | .skip => some (.normal, σ, H)
  | .region _ ops draw =>
   match iops P (wrap md fun lk f args H =>
    match P.funcs[f]? with
    | some fn => match fn.body with
     | some body => match q0s P md n lk body (q4j args) H with
      | some (.exit _, _, _) => none
      | some (_, σ', H') => match ires P fn σ' H' with
       | some v => some (v, H')
       | none => none
      | none => none
     | none => none
    | none => none) lk draw ops ops.toList σ H with
   | some (σ', H') => some (.normal, σ', H')
   | none => none
  | .seq a b => match q0s P md n lk a σ H with
   | some (.normal, σ', H') => q0s P md n lk b σ' H'
   | r => r
  | .cond c a b => match ev σ c with
   | .bool t => q0s P md n lk (if t then a else b) σ H
   | _ => none
  | .block id a => match q0s P md n lk a σ H with
   | some (.exit j, σ', H') => if j = id then some (.normal, σ', H') else some (.exit j, σ', H')
   | r => r
  | .loop a => match q0s P md n lk a σ H with
   | some (.normal, σ', H') => q0s P md n lk (.loop a) σ' H'
   | r => r
  | .exit id => some (.exit id, σ, H)
  | .scope a => q0s P md n lk a σ H
  | .label _ => some (.normal, σ, H)
  | .ret => some (.ret, σ, H)
  | _ => none

def q1k (P : Program) (md : Md) (n : Nat) : q0l := fun lk f args H =>
 match P.funcs[f]? with
 | some fn => match fn.body with
  | some body => match q0s P md n lk body (q4j args) H with
   | some (.exit _, _, _) => none
   | some (_, σ', H') => match ires P fn σ' H' with
    | some v => some (v, H')
    | none => none
   | none => none
  | none => none
 | none => none

def w3v (n : Nat) (ops : Array Oper) : Bool := ops.all fun o => match o.dst with
 | some d => d < n
 | none => true
def q5g (n : Nat) : Code → Bool
 | .region _ ops draw => w3v n ops && (!draw || drawOk ops)
 | .seq a b => q5g n a && q5g n b
 | .cond _ a b => q5g n a && q5g n b
 | .block _ a => q5g n a
 | .loop a => q5g n a
 | .scope a => q5g n a
 | _ => true
def wfBody (fn : Func) : Bool := match fn.body with
 | some c => q5g fn.ntmps c
 | none => true
def nmFunc (fn : Func) : Bool := fn.name != "runtime.NumGoroutine"
def q7i (P : Program) : Bool := P.funcs.toList.all nmFunc
def wfMd (P : Program) (md : Md) : Bool := (List.range P.funcs.size).all fun g => md g == 3 || match P.funcs[g]? with
 | some fn => wfBody fn
 | none => true
theorem wfMd_body {P : Program} {md : Md} (h : wfMd P md = true) {g : FuncId} {fn : Func} (hg : P.funcs[g]? = some fn) (h3 : md g ≠ 3) : wfBody fn = true := by
 unfold wfMd at h
 rw [List.all_eq_true] at h
 have hlt : g < P.funcs.size := by
  obtain ⟨hlt, _⟩ := Array.getElem?_eq_some_iff.1 hg
  exact hlt
 have := h g (List.mem_range.2 hlt)
 rw [hg] at this
 simpa [h3] using this

end Gx
end
