/- The calculus over the mini interpreter: what the operations on data come to. -/
import Derived.Test.YtehnbdbhjeffaaaGreatGz6
set_option linter.all false
section
set_option autoImplicit false
namespace Gx
open Go Go.RowKit
section
variable {P : Program} {md : Md} {lk : Nat} {σ : Env} {H : Heap} {t : TypeId} {k : IntKind} {a b : Int}

theorem beq_decI (x y : Int) : (x == y) = decide (x = y) := by by_cases h : x = y <;> simp [h]
theorem beq_decL (x y : List UInt8) : (x == y) = decide (x = y) := by by_cases h : x = y <;> simp [h]
@[go_sem] theorem gw_not (t : Bool) (x y : Prop) : gw (some (!t)) x y = gw (some t) y x := by cases t <;> rfl
@[go_sem] theorem ite_bool_false (p : Bool) (x : Bool) : (if p = true then Value.bool x else .bool false) = .bool (p && x) := by cases p <;> rfl
@[go_sem] theorem ite_bool_true (p : Bool) (x : Bool) : (if p = true then Value.bool true else .bool x) = .bool (p || x) := by cases p <;> rfl
@[go_sem] theorem put_upd (i : Nat) (v : Value) : put σ (some i) v = upd σ i v := rfl

@[go_sem] theorem ibin_add : ibin P .add t (.int k a) (.int k b) = some (.int k (k.wrap (a + b))) := by simp [ibin]
@[go_sem] theorem ibin_sub : ibin P .sub t (.int k a) (.int k b) = some (.int k (k.wrap (a - b))) := by simp [ibin]
@[go_sem] theorem ibin_mul : ibin P .mul t (.int k a) (.int k b) = some (.int k (k.wrap (a * b))) := by simp [ibin]
@[go_sem] theorem ibin_quo : ibin P .quo t (.int k a) (.int k b) = if b ≠ 0 then some (.int k (k.wrap (a.tdiv b))) else none := by simp [ibin]
@[go_sem] theorem ibin_rem : ibin P .rem t (.int k a) (.int k b) = if b ≠ 0 then some (.int k (a.tmod b)) else none := by simp [ibin]
@[go_sem] theorem ibin_shl (k' : IntKind) : ibin P .shl t (.int k a) (.int k' b) = if 0 ≤ b then some (.int k (k.wrap (a * 2 ^ (min b.toNat k.bits)))) else none := rfl
@[go_sem] theorem ibin_shr (k' : IntKind) : ibin P .shr t (.int k a) (.int k' b) = if 0 ≤ b then some (.int k (a.fdiv (2 ^ (min b.toNat k.bits)))) else none := rfl
@[go_sem] theorem ibin_and : ibin P .and t (.int k a) (.int k b) = q6t .and k a b := by simp [ibin]
@[go_sem] theorem ibin_or : ibin P .or t (.int k a) (.int k b) = q6t .or k a b := by simp [ibin]
@[go_sem] theorem ibin_xor : ibin P .xor t (.int k a) (.int k b) = q6t .xor k a b := by simp [ibin]
@[go_sem] theorem ibin_andNot : ibin P .andNot t (.int k a) (.int k b) = q6t .andNot k a b := by simp [ibin]
@[go_sem] theorem ibin_eql : ibin P .eql t (.int k a) (.int k b) = some (.bool (decide (a = b))) := by simp [ibin, beq_decI]
@[go_sem] theorem ibin_neq : ibin P .neq t (.int k a) (.int k b) = some (.bool (!decide (a = b))) := by simp [ibin, bne, beq_decI]
@[go_sem] theorem ibin_lss : ibin P .lss t (.int k a) (.int k b) = some (.bool (decide (a < b))) := by simp [ibin]
@[go_sem] theorem ibin_leq : ibin P .leq t (.int k a) (.int k b) = some (.bool (decide (a ≤ b))) := by simp [ibin]
@[go_sem] theorem ibin_gtr : ibin P .gtr t (.int k a) (.int k b) = some (.bool (decide (b < a))) := by simp [ibin]
@[go_sem] theorem ibin_geq : ibin P .geq t (.int k a) (.int k b) = some (.bool (decide (b ≤ a))) := by simp [ibin]
@[go_sem] theorem ibin_eqb (x y : Bool) : ibin P .eql t (.bool x) (.bool y) = if tbool P t = true then some (.bool (x == y)) else none := rfl
@[go_sem] theorem ibin_neb (x y : Bool) : ibin P .neq t (.bool x) (.bool y) = if tbool P t = true then some (.bool (!(x == y))) else none := rfl
@[go_sem] theorem ibin_nils (x : Option Addr) (n m : Nat) : ibin P .eql t (.slice x n m) (.slice none 0 0) = if (q0z P t).isSome then some (.bool x.isNone) else none := by cases x <;> rfl
@[go_sem] theorem ibin_nnils (x : Option Addr) (n m : Nat) : ibin P .neq t (.slice x n m) (.slice none 0 0) = if (q0z P t).isSome then some (.bool (!x.isNone)) else none := by cases x <;> rfl
@[go_sem] theorem ibin_eqa (xs ys : Array Value) : ibin P .eql t (.agg xs) (.agg ys) = match q5m P t with
  | some ks => (q0q ks xs.toList ys.toList).map fun b => .bool b
  | none => none := rfl
@[go_sem] theorem ibin_nea (xs ys : Array Value) : ibin P .neq t (.agg xs) (.agg ys) = match q5m P t with
  | some ks => (q0q ks xs.toList ys.toList).map fun b => .bool (!b)
  | none => none := rfl
@[go_sem] theorem w0t : q0q [] [] [] = some true := rfl
@[go_sem] theorem q8h (ks : List Nat) (x y : Bool) (xs ys : List Value) : q0q (0 :: ks) (.bool x :: xs) (.bool y :: ys) = (q0q ks xs ys).map fun r => (x == y) && r := rfl
@[go_sem] theorem eqCells_int (ks : List Nat) (xs ys : List Value) : q0q (1 :: ks) (.int k a :: xs) (.int k b :: ys) = (q0q ks xs ys).map fun r => decide (a = b) && r := by simp [q0q, beq_decI]

@[go_sem] theorem iun_neg : iun .neg (.int k a) = some (.int k (k.wrap (0 - a))) := rfl
@[go_sem] theorem iun_xor : iun .xor (.int k a) = q6t .xor k (if k.signed then -1 else k.max) a := rfl
@[go_sem] theorem iun_not (x : Bool) : iun .not (.bool x) = some (.bool !x) := rfl


def mkS (l : List UInt8) : ByteArray := ⟨l.toArray⟩
theorem toListLoop_eq (bs : ByteArray) : ∀ n i r, bs.size - i = n → ByteArray.toList.loop bs i r = r.reverse ++ bs.data.toList.drop i := by
 intro n
 induction n with
 | zero =>
  intro i r h
  unfold ByteArray.toList.loop
  have hs : bs.size = bs.data.toList.length := rfl
  rw [if_neg (by omega), List.drop_eq_nil_of_le (by omega), List.append_nil]
 | succ n ih =>
  intro i r h
  unfold ByteArray.toList.loop
  have hs : bs.size = bs.data.toList.length := rfl
  rw [if_pos (by omega), ih _ _ (by omega)]
  have hi : i < bs.data.toList.length := by omega
  rw [List.drop_eq_getElem_cons hi, List.reverse_cons, List.append_assoc]
  have : bs.get! i = bs.data.toList[i] := by
   simp only [ByteArray.get!]
   rw [Array.getElem_toList]
   exact getElem!_pos bs.data i (by simpa using hi)
  rw [this]; rfl
theorem w1b (bs : ByteArray) : bs.toList = bs.data.toList := by
 unfold ByteArray.toList
 rw [toListLoop_eq bs _ 0 [] rfl]; simp
@[go_sem] theorem q5l (l : List UInt8) : (mkS l).toList = l := by rw [w1b]; rfl
@[go_sem] theorem q8t (l : List UInt8) : (mkS l).size = l.length := by simp [mkS, ByteArray.size]
@[go_sem] theorem mkS_empty : ByteArray.empty = mkS [] := rfl
@[go_sem] theorem mkS_lit (l : List UInt8) : ({ data := l.toArray } : ByteArray) = mkS l := rfl
theorem w2v (s : ByteArray) : mkS s.toList = s := by rw [w1b]; rfl
@[go_sem] theorem mkS_append (x y : List UInt8) : mkS x ++ mkS y = mkS (x ++ y) := by
 have : (mkS x ++ mkS y).toList = (mkS (x ++ y)).toList := by
  rw [q5l, w1b, ByteArray.data_append]; simp [mkS]
 rw [← w2v (mkS x ++ mkS y), this, w2v]
@[go_sem] theorem ibin_sadd (x y : List UInt8) : ibin P .add t (.string (mkS x)) (.string (mkS y)) = if x.length + y.length ≤ 4611686018427387904 then some (.string (mkS (x ++ y))) else none := by simp only [ibin, q8t, mkS_append]
@[go_sem] theorem ibin_seql (x y : List UInt8) : ibin P .eql t (.string (mkS x)) (.string (mkS y)) = some (.bool (decide (x = y))) := by
 simp only [ibin, q5l, beq_decL]
@[go_sem] theorem ibin_sneq (x y : List UInt8) : ibin P .neq t (.string (mkS x)) (.string (mkS y)) = some (.bool (!decide (x = y))) := by
 simp only [ibin, q5l, beq_decL]
@[go_sem] theorem ibin_slss (x y : List UInt8) : ibin P .lss t (.string (mkS x)) (.string (mkS y)) = some (.bool (Go.Op.bytesLess x y)) := by simp only [ibin, q5l]
@[go_sem] theorem w0r (ks : List Nat) (x y : List UInt8) (xs ys : List Value) : q0q (2 :: ks) (.string (mkS x) :: xs) (.string (mkS y) :: ys) = (q0q ks xs ys).map fun r => decide (x = y) && r := by
 simp only [q0q, q5l, beq_decL]
theorem byt_mkS (l : List UInt8) (i : Nat) (h : i < l.length) : byt (mkS l) i = (l[i].toNat : Int) := by
 unfold byt
 rw [dif_pos (by rw [q8t]; exact h)]
 rfl
@[go_sem] theorem iindex_str (l : List UInt8) (i : Int) (k : IntKind) : w3p P t (.string (mkS l)) (.int k i) = if tstr P t = true ∧ 0 ≤ i ∧ i < (l.length : Int) then some (.int .u8 (byt (mkS l) i.toNat)) else none := by simp only [w3p, q8t]
@[go_sem] theorem ilen_str (l : List UInt8) : ilen P t (.string (mkS l)) = if tstr P t = true then some (.int .i64 (l.length : Int)) else none := by simp only [ilen, q8t]
@[go_sem] theorem ilen_slice (x : Option Addr) (n m : Nat) : ilen P t (.slice x n m) = if (q0z P t).isSome = true then some (.int .i64 (n : Int)) else none := rfl


@[go_sem] theorem ibuild_eq (parts : List (Nat × Value)) : ibuild P t parts = match q1x P t, q7q P t, tarr P t with
 | some zs, some pl, _ => (q7d (fun i => pl[i]?) zs parts).map fun cs => .agg cs.toArray
 | some zs, none, some (_, e) => match tsz P e with
  | some n => (q7d (fun i => some (i * n, n)) zs parts).map fun cs => .agg cs.toArray
  | none => none
 | _, _, _ => none := rfl
@[go_sem] theorem ibuildSlice_eq (n : Nat) (parts : List (Nat × Value)) : q2e P H t n parts = match q0z P t with
 | none => none
 | some e =>
  match tsz P e, q1x P e with
  | some k, some zs =>
   if 0 < k ∧ zs.length = k ∧ n * k ≤ 16777216 then
    match q7d (fun i => some (i * k, k)) (reps zs n) parts with
    | some cs => some (.slice (some ⟨H.length, 0, none⟩) n n, H ++ [⟨cs, k, false⟩])
    | none => none
   else none
  | _, _ => none := rfl
@[go_sem] theorem imakeSlice_eq (l c : Int) : q4h P H t (.int .i64 l) (.int .i64 c) = match q0z P t with
  | none => none
  | some e =>
   match tsz P e, q0r P e, q1x P e with
   | some n, some b, some zs =>
    if 0 < n ∧ zs.length = n ∧ 0 ≤ l ∧ l ≤ c ∧ (b : Int) * c ≤ 281474976710656 ∧ c < 4611686018427387904 then
     some (.slice (some ⟨H.length, 0, none⟩) l.toNat l.toNat, H ++ [⟨reps zs l.toNat, n, false⟩])
    else none
   | _, _, _ => none := rfl
@[go_sem] theorem ifieldAddr_eq (b o i : Nat) : q3l P t (.pointer (some ⟨b, o, none⟩)) i = match q5h P t i with
  | some (off, u) => match tsz P u with
   | some n => if n = 0 then none else some (.pointer (some ⟨b, o + off, none⟩))
   | none => none
  | none => none := by
 simp only [q3l]
 cases q5h P t i <;> rfl
@[go_sem] theorem ifield_eq (cs : List Value) (i : Nat) : w3q P t (.agg cs.toArray) i = match q5h P t i with
  | some (off, u) => ipart P u cs off
  | none => none := by
 simp only [w3q]
 cases q5h P t i <;> rfl
@[go_sem] theorem ipart_eq (cs : List Value) (o : Nat) : ipart P t cs o = match tagg P t, tsz P t with
 | some true, some n => (isub cs o n).map fun l => .agg l.toArray
 | some false, _ => cs[o]?
 | _, _ => none := rfl
@[go_sem] theorem iindexAddr_slice (b o n m : Nat) (i : Int) (k : IntKind) : q0i P t (.slice (some ⟨b, o, none⟩) n m) (.int k i) = match q0z P t with
   | some e => match tsz P e with
    | some k => if 0 ≤ i ∧ i < n ∧ n = m then some (.pointer (some ⟨b, o + i.toNat * k, none⟩)) else none
    | none => none
   | none => none := rfl
@[go_sem] theorem iindexAddr_arr (b o : Nat) (i : Int) (k : IntKind) : q0i P t (.pointer (some ⟨b, o, none⟩)) (.int k i) = match tarr P t with
   | some (n, e) => match tsz P e with
    | some k => if 0 ≤ i ∧ i < n then some (.pointer (some ⟨b, o + i.toNat * k, none⟩)) else none
    | none => none
   | none => none := rfl
@[go_sem] theorem iindex_agg (cs : List Value) (i : Int) (k : IntKind) : w3p P t (.agg cs.toArray) (.int k i) = match tarr P t with
  | some (n, e) => match tsz P e with
   | some k => if 0 ≤ i ∧ i < n then ipart P e cs (i.toNat * k) else none
   | none => none
  | none => none := rfl
@[go_sem] theorem ibound_none : q2l none = some none := rfl
@[go_sem] theorem ibound_some (k : IntKind) (n : Int) : q2l (some (.int k n)) = if 0 ≤ n then some (some n.toNat) else none := rfl
@[go_sem] theorem islice_eq (b o n m : Nat) (lo hi : Option Value) : q4w P H t (.slice (some ⟨b, o, none⟩) n m) lo hi none = match q2l lo, q2l hi with
  | some lo, some hi => match q0z P t with
   | none => none
   | some e =>
    match tsz P e, H[b]? with
    | some k, some B => if B.sz = k ∧ n = m ∧ lo.getD 0 ≤ hi.getD n ∧ hi.getD n ≤ n then some (.slice (some ⟨b, o + lo.getD 0 * k, none⟩) (hi.getD n - lo.getD 0) (hi.getD n - lo.getD 0)) else none
    | _, _ => none
  | _, _ => none := by
 unfold q4w
 rw [ibound_none]
 cases q2l lo with
 | none => rfl
 | some lo =>
  cases q2l hi with
  | none => rfl
  | some hi =>
   simp only [Option.getD_none]
   cases q0z P t with
   | none => rfl
   | some e =>
    simp only
    cases tsz P e with
    | none => rfl
    | some k =>
     cases H[b]? with
     | none => rfl
     | some B => simp
theorem islice_str (l : List UInt8) (lo hi : Option Value) : q4w P H t (.string (mkS l)) lo hi none = match q2l lo, q2l hi with
  | some lo, some hi => if tstr P t = true then if lo.getD 0 ≤ hi.getD l.length ∧ hi.getD l.length ≤ l.length then some (.string (mkS ((l.drop (lo.getD 0)).take (hi.getD l.length - lo.getD 0)))) else none else none
  | _, _ => none := by
 unfold q4w
 rw [ibound_none]
 cases q2l lo with
 | none => rfl
 | some lo =>
  cases q2l hi with
  | none => rfl
  | some hi =>
   simp only [q8t, and_true]
   split
   ·split
    ·congr 2
     rw [← w2v ((mkS l).extract _ _), w1b, ByteArray.data_extract]
     congr 1
     simp [mkS]
    ·rfl
   ·rfl
attribute [go_sem] islice_str

@[go_sem] theorem q9h (t2 : TypeId) (s x : Value) : q2u P lk H t t2 s x = match q0z P t, q0z P t2 with
 | some e, some _ =>
  match tsz P e, q0r P e, q1x P e, ilenOf x with
  | some k, some by_, some zs, some n =>
   match q9r H k n x with
   | none => none
   | some new =>
    if 0 < k ∧ zs.length = k ∧ 0 < by_ then
     match s with
     | .slice none 0 0 => if n * by_ ≤ 70368744177664 then
       (if n = 0 then some (.slice none 0 0, H) else some (.slice (some ⟨H.length, 0, none⟩) n n, H ++ [⟨new, k, false⟩])) else none
     | .slice (some ⟨b, o, some e⟩) 0 0 => if n * by_ ≤ 70368744177664 then
       (if n = 0 then some (.slice (some ⟨b, o, some e⟩) 0 0, H) else some (.slice (some ⟨H.length, 0, none⟩) n n, H ++ [⟨new, k, false⟩])) else none
     | .slice (some ⟨b, o, none⟩) m c =>
      match q0e H b with
      | some B =>
       if m = c ∧ B.sz = k ∧ lk ≤ b ∧ (m + n) * by_ ≤ 70368744177664 ∧ o + m * k ≤ B.c.length then
        some (.slice (some ⟨H.length, 0, none⟩) (m + n) (m + n), H.set b { B with dead := true } ++ [⟨(B.c.drop o).take (m * k) ++ new, k, false⟩])
       else none
      | none => none
     | _ => none
    else none
  | _, _, _, _ => none
 | some e, none => q5j P H e t2 s x
 | _, _ => none := rfl
@[go_sem] theorem icap_nil : icap P t (.slice none 0 0) = if (q0z P t).isSome = true then some (.int .i64 0) else none := rfl
@[go_sem] theorem iappendN_int (e t2 : TypeId) (l : Int) : q5j P H e t2 (.slice none 0 0) (.int .i64 l) = match tint P t2 with
 | some _ =>
  match tsz P e, q0r P e, q1x P e with
  | some k, some by_, some zs =>
   if 0 < k ∧ zs.length = k ∧ 0 < by_ ∧ 0 < l ∧ l ≤ 9223372036854775807 ∧ l.toNat * by_ ≤ 70368744177664 then some (.slice (some ⟨H.length, 0, none⟩) l.toNat l.toNat, H ++ [⟨reps zs l.toNat, k, false⟩]) else none
  | _, _, _ => none
 | none => none := by
 unfold q5j
 cases tint P t2 <;> rfl
@[go_sem] theorem iappendN_slice (e t2 : TypeId) (s : Value) (a : Option Addr) (n m : Nat) : q5j P H e t2 s (.slice a n m) = none := rfl
@[go_sem] theorem w1r (x : Option Addr) (n m : Nat) : ilenOf (.slice x n m) = some n := rfl
@[go_sem] theorem ifirst_nil (k n : Nat) : q9r H k n (.slice none 0 0) = if n = 0 then some [] else none := rfl
@[go_sem] theorem ifirst_eq (b o k n m c : Nat) : q9r H k n (.slice (some ⟨b, o, none⟩) m c) = if n ≤ m ∧ m = c then (if n = 0 then some [] else match q0e H b with
   | some B => if B.sz = k then isub B.c o (n * k) else none
   | none => none) else none := rfl
@[go_sem] theorem iconvert_int (s d : TypeId) : q4p P H s d (.int k a) = match tint P s, tint P d with
  | some _, some k => some (.int k (k.wrap a), H)
  | _, _ => none := rfl
@[go_sem] theorem iconvert_str (s d : TypeId) (l : List UInt8) : q4p P H s d (.string (mkS l)) = if tstr P s = true then
   if tstr P d = true then some (.string (mkS l), H)
   else match q0z P d with
    | some e => if tint P e = some .u8 then if tsz P e = some 1 then some (.slice (some ⟨H.length, 0, none⟩) l.length l.length, H ++ [⟨l.map fun b => .int .u8 b.toNat, 1, false⟩]) else none else none
    | none => none
  else none := by simp only [q4p, q8t, q5l]; rfl
@[go_sem] theorem iconvert_slice (s d : TypeId) (x : Option Addr) (n m : Nat) : q4p P H s d (.slice x n m) = match q0z P s with
  | some e => if tint P e = some .u8 ∧ tstr P d = true then
    match q9r H 1 n (.slice x n m) with
    | some cs => (q5u cs).map fun l => (.string (mkS l), H)
    | none => none
   else none
  | none => none := rfl
@[go_sem] theorem imax2_eq : imax2 (.int k a) (.int k b) = some (.int k (if b > a then b else a)) := by simp [imax2]
@[go_sem] theorem imin2_eq : imin2 (.int k a) (.int k b) = some (.int k (if b < a then b else a)) := by simp [imin2]


@[go_sem] theorem len_app (N : Heap) : (H ++ N).length = H.length + N.length := List.length_append
def w3o (N : Heap) (i : Nat) : Option Blk := q0e N i
@[go_sem] theorem q9f (N : Heap) : q0e (H ++ N) H.length = w3o N 0 := by
 unfold w3o q0e; rw [List.getElem?_append_right (Nat.le_refl _), Nat.sub_self]
@[go_sem] theorem q2q (N : Heap) (i : Nat) : q0e (H ++ N) (H.length + i) = w3o N i := by
 unfold w3o q0e; rw [List.getElem?_append_right (Nat.le_add_right _ _), Nat.add_sub_cancel_left]
@[go_sem] theorem iliveN_zero (c : List Value) (s : Nat) (N : Heap) : w3o (⟨c, s, false⟩ :: N) 0 = some ⟨c, s, false⟩ := rfl
@[go_sem] theorem iliveN_succ (B : Blk) (N : Heap) (i : Nat) : w3o (B :: N) (i + 1) = w3o N i := by simp [q0e, w3o]
@[go_sem] theorem get_app0 (N : Heap) : (H ++ N)[H.length]? = N[0]? := by rw [List.getElem?_append_right (Nat.le_refl _), Nat.sub_self]
@[go_sem] theorem get_appN (N : Heap) (i : Nat) : (H ++ N)[H.length + i]? = N[i]? := by rw [List.getElem?_append_right (Nat.le_add_right _ _), Nat.add_sub_cancel_left]
@[go_sem] theorem getB_zero (B : Blk) (N : Heap) : (B :: N)[0]? = some B := rfl
@[go_sem] theorem getB_succ (B : Blk) (N : Heap) (i : Nat) : (B :: N)[i + 1]? = N[i]? := rfl
@[go_sem] theorem set_app0 (N : Heap) (B : Blk) : (H ++ N).set H.length B = H ++ N.set 0 B := by rw [List.set_append_right _ _ (Nat.le_refl _), Nat.sub_self]
@[go_sem] theorem set_appN (N : Heap) (i : Nat) (B : Blk) : (H ++ N).set (H.length + i) B = H ++ N.set i B := by
 rw [List.set_append_right _ _ (Nat.le_add_right _ _), Nat.add_sub_cancel_left]
@[go_sem] theorem set_zero (B C : Blk) (N : Heap) : (B :: N).set 0 C = C :: N := rfl
@[go_sem] theorem set_succ (B C : Blk) (N : Heap) (i : Nat) : (B :: N).set (i + 1) C = B :: N.set i C := rfl
theorem q2y {b : Nat} {B : Blk} (h : q0e H b = some B) : H[b]? = some B := by
 unfold q0e at h
 split at h
 ·rename_i hb
  split at h
  ·simp at h
  ·injection h with h; subst h; exact hb
 ·simp at h
end
end Gx
end
